/- view: slices.Clone, Ranges, Copy, all, Reads. -/
import Derived.Test.YtbdijekfplpnlaaGo
import Derived.Test.YtbdijekfplpnlaaF14b
-- @D
namespace Go.Proofs.Ytbdijekfplpnlaa
set_option maxRecDepth 20000
open Go.Awp Tr
theorem rgV_cl (l : List Rg) : clR (l.map rgV) := by
  intro r hr x hx
  obtain ⟨y, _, rfl⟩ := List.mem_map.1 hr
  simp [cellsOf, rgV] at hx
  rcases hx with rfl | rfl <;> rfl
theorem rgV_size (l : List Rg) : ∀ r ∈ l.map rgV, (cellsOf r).length = 2 := by
  intro r hr
  obtain ⟨y, _, rfl⟩ := List.mem_map.1 hr
  rfl
theorem rgClone_spec (l : List Rg) (hl : l.length ≤ big40) : Con Try.prog 67 [.sl (.o 0) l.length 0 l.length] [vR l] (.sl (.l 0) l.length 0 l.length) [vR l] [vR l] := by
  cases l with
  | nil =>
    have hrd : ∀ L, Rd [vR []] L (.sl (.o 0) 0 0 0) [] := fun L => Rd.full rfl rfl
    refine con_of Try.func67 rfl (by kernel_rfl) rfl fun F w0 β0 => ?_
    refine K_tell rfl ?_
    refine go ?_
    refine J_slNil hT rfl rfl rfl rfl rfl rfl rfl (fun b => ?_)
    cases b with
    | true =>
      refine go ?_
      refine J_lazyE 2 102 (e := 2) rfl rfl (.inl rfl) ?_
      exact J_give hT rfl rfl
    | false =>
      refine go ?_
      refine K_op rfl rfl (opr_app_nothing (d := .cz) hT rfl rfl (.inr rfl) rfl rfl (.rd (hrd _)) hbs_sl) rfl ?_
      refine go ?_
      refine J_lazyE 2 102 (e := 2) rfl rfl (.inr rfl) ?_
      exact J_give hT rfl rfl
  | cons r rs =>
    have hrd : ∀ L, Rd [vR (r :: rs)] L (.sl (.o 0) (r :: rs).length 0 (r :: rs).length) ((r :: rs).map rgV) := fun L => Rd.full rfl (by simp)
    generalize hn : r :: rs = m at hrd hl
    have h0 : 0 < m.length := by rw [← hn]; simp
    unfold big40 at hl
    refine con_of Try.func67 rfl (by kernel_rfl) rfl fun F w0 β0 => ?_
    refine K_tell rfl ?_
    refine go ?_
    refine K_op rfl rfl (opr_slNe hT rfl rfl rfl rfl rfl (by simp) h0) rfl ?_
    refine go ?_
    refine K_op rfl rfl (opr_app_new hT rfl rfl (.inr rfl) rfl (.rd (hrd _)) hbs_sl (rgV_cl m) (rgV_size m) (by decide) (by decide) (by simpa using h0) (by simp; omega)) rfl ?_
    rw [List.length_map]
    refine go ?_
    exact J_give hT rfl rfl
theorem vranges_spec (s : VS) (hr : s.ranges.length ≤ big40) : Con Try.prog 47 [vP] (vH s) (.sl (.l 0) s.ranges.length 0 s.ranges.length) (vH s) [vR s.ranges] := by
  refine con_of Try.func47 rfl (by kernel_rfl) rfl fun F w0 β0 => ?_
  refine K_tell rfl ?_
  refine go ?_
  refine K_op rfl rfl (opr_callS [.o 1] rfl rfl (rgClone_spec s.ranges hr) rfl rfl rfl ⟨⟨rfl, rfl⟩, trivial⟩ rfl rfl rfl rfl) rfl ?_
  refine go ?_
  exact J_give hT rfl rfl
theorem vcopy_spec (s : VS) (hr : s.ranges.length ≤ big40) : Con Try.prog 43 [vP] (vH s) (.ad (.l 0) 0) (vH s) (vN s) := by
  refine con_of Try.func43 rfl (by kernel_rfl) rfl fun F w0 β0 => ?_
  refine K_tell rfl ?_
  refine go ?_
  refine K_op rfl rfl (opr_callS [.o 1] rfl rfl (rgClone_spec s.ranges hr) rfl rfl rfl ⟨⟨rfl, rfl⟩, trivial⟩ rfl rfl rfl rfl) rfl ?_
  refine go ?_
  exact J_give hT rfl rfl
structure Ix (n : Nat) where
  i : Nat
  h : i ≤ n
theorem map_take1 {α β : Type} (f : α → β) {l : List α} {i : Nat} {x : α} (hx : l[i]? = some x) : (l.take i).map f ++ [f x] = (l.take (i + 1)).map f := by
  obtain ⟨h, rfl⟩ := List.getElem?_eq_some_iff.1 hx
  rw [List.take_succ_eq_append_getElem h, List.map_append]
  rfl
theorem kvs_take {l : List KV} {i : Nat} {x : KV} (hx : l[i]? = some x) : kvs (l.take i) ++ [kvV x] = kvs (l.take (i + 1)) := map_take1 kvV hx
set_option maxHeartbeats 4000000 in
theorem vall_spec (t : Tr) (ht : t.size ≤ big40) : Con Try.prog 62 [W t] [] (.sl (.l 0) t.size 0 t.size) [] [.arr 99 true 3 (kvs t.row)] := by
  have hrl := row_len t
  have hat := atZ_row t
  generalize t.row = l at hrl hat
  have ht2 := ht
  unfold big40 at ht2
  refine con_of Try.func62 rfl (by kernel_rfl) rfl fun F w0 β0 => ?_
  refine K_tell rfl ?_
  refine go ?_
  refine K_op rfl rfl (opr_callP rfl rfl (tlen_spec t) rfl rfl rfl rfl) rfl ?_
  refine go ?_
  refine J_lazyE 3 99 (e := 3) rfl rfl (.inl rfl) ?_
  refine J_loop (fun q : Ix t.size => [(0, W t), (3, .sl (.l 0) q.i 0 q.i), (8, .p (.int .i64 (t.size : Int))), (9, .p (.int .i64 (q.i : Int)))]) (fun _ => []) (fun q => [.arr 99 true 3 (kvs (l.take q.i))]) (fun q => t.size - q.i) ⟨0, by omega⟩ ⟨rfl, rfl, rfl, rfl, trivial⟩ rfl rfl (fun q => ?_)
  have hi := q.h
  have hlt : (kvs (l.take q.i)).length = q.i := by simp; omega
  refine go ?_
  by_cases h : q.i < t.size
  · have hx : l[q.i]? = some (l[q.i]'(by omega)) := List.getElem?_eq_getElem _
    generalize l[q.i]'(by omega) = x at hx
    have a1 : atZ t (q.i : Int) = some x := by rw [hat, if_neg (by omega), Int.toNat_natCast, hx]
    have d1 := tat_spec t (q.i : Int) ht (by omega)
    rw [a1] at d1
    refine K_condT rfl (decide_eq_true (by omega)) ?_
    refine go ?_
    refine K_op rfl rfl (opr_callP rfl rfl (d1) rfl rfl rfl rfl) rfl ?_
    refine go ?_
    refine K_op rfl rfl (opr_app_own hT rfl rfl rfl rfl hlt rfl rfl (.rd (.ps _)) hbs_ps (kvs_cl [x]) (kvs_size [x]) (by decide) (by show (q.i + 1) * 40 ≤ _; omega)) rfl ?_
    refine go ?_
    refine J_take 1 [(0, W t), (3, .sl (.l 0) (q.i + 1) 0 (q.i + 1)), (8, .p (.int .i64 (t.size : Int))), (9, .p (.int .i64 (IntKind.i64.wrap ((q.i : Int) + 1))))] ⟨rfl, rfl, rfl, rfl, trivial⟩ rfl rfl ?_
    refine J_again ⟨q.i + 1, by omega⟩ (by show t.size - (q.i + 1) < t.size - q.i; omega) ⟨rfl, rfl, rfl, congrArg (fun z => TV.p (.int .i64 z)) (by rw [IntWalk.i64_in _ (by omega)]; rfl), trivial⟩ rfl (by show [AObj.arr _ _ _ _] = [AObj.arr _ _ _ _]; rw [← kvs_take hx]; rfl)
  have e : q.i = t.size := by omega
  rw [e, ← hrl, List.take_length, hrl]
  refine K_condF rfl (decide_eq_false (by omega)) ?_
  refine go ?_
  exact J_give hT rfl rfl
def ksV (l : List KV) : List AV := l.map fun x => .str x.1
theorem ks_cl (l : List KV) : clR (ksV l) := by
  intro r hr x hx
  obtain ⟨y, _, rfl⟩ := List.mem_map.1 hr
  simp [cellsOf] at hx
  subst hx; rfl
theorem ks_size (l : List KV) : ∀ r ∈ ksV l, (cellsOf r).length = 1 := by
  intro r hr
  obtain ⟨y, _, rfl⟩ := List.mem_map.1 hr
  rfl
theorem ks_take {l : List KV} {i : Nat} {x : KV} (hx : l[i]? = some x) : ksV (l.take i) ++ [.str x.1] = ksV (l.take (i + 1)) := map_take1 (fun y : KV => AV.str y.1) hx
set_option maxHeartbeats 4000000 in
theorem vreads_spec (s : VS) (hr : s.reads.size ≤ big40) : Con Try.prog 46 [vP] (vH s) (.sl (.l 0) s.reads.size 0 s.reads.size) (vH s) [.arr 9 true 1 (ksV s.reads.row)] := by
  have hrl := row_len s.reads
  have c1 := vall_spec s.reads hr
  generalize s.reads.row = l at hrl c1
  have hlk : (kvs l).length = s.reads.size := by simpa using hrl
  unfold big40 at hr
  refine con_of Try.func46 rfl (by kernel_rfl) rfl fun F w0 β0 => ?_
  refine K_tell rfl ?_
  refine go ?_
  refine J_lazyE 3 9 (e := 1) rfl rfl (.inl rfl) ?_
  refine K_op rfl rfl (opr_callP rfl rfl (c1) rfl rfl rfl rfl) rfl ?_
  have hrd : ∀ o M, Rd (vH s) (o :: .arr 99 true 3 (kvs l) :: M) (.sl (.l 1) s.reads.size 0 s.reads.size) (kvs l) := fun o M => Rd.full rfl hlk
  refine K_op rfl rfl (opr_len_rd hT rfl rfl (hrd _ _)) rfl ?_
  rw [hlk]
  refine go ?_
  refine J_loop (fun q : Ix s.reads.size => [(0, vP), (3, .sl (.l 0) q.i 0 q.i), (13, .sl (.l 1) s.reads.size 0 s.reads.size), (14, .p (.int .i64 (s.reads.size : Int))), (15, .p (.int .i64 (q.i : Int)))]) (fun _ => vH s) (fun q => [.arr 9 true 1 (ksV (l.take q.i)), .arr 99 true 3 (kvs l)]) (fun q => s.reads.size - q.i) ⟨0, by omega⟩ ⟨rfl, rfl, rfl, rfl, rfl, trivial⟩ rfl rfl (fun q => ?_)
  have hi := q.h
  have hlt : (ksV (l.take q.i)).length = q.i := by simp [ksV]; omega
  refine go ?_
  by_cases h : q.i < s.reads.size
  · have hx : l[q.i]? = some (l[q.i]'(by omega)) := List.getElem?_eq_getElem _
    generalize l[q.i]'(by omega) = x at hx
    have hxk : (kvs l)[((q.i : Nat) : Int).toNat]? = some (kvV x) := kvs_get hx
    refine K_condT rfl (decide_eq_true (by omega)) ?_
    refine go ?_
    refine K_op rfl rfl (opr_index hT rfl rfl rfl rfl rfl (hrd _ _) (by omega) (by rw [hlk]; omega)) rfl ?_
    refine go ?_
    refine K_op rfl rfl (opr_load_el hT rfl rfl (hrd _ _) hxk rfl rfl) rfl ?_
    refine go ?_
    refine K_op rfl rfl (opr_app_own hT rfl rfl rfl rfl hlt rfl rfl (.rd (.ps _)) hbs_ps (ks_cl [x]) (ks_size [x]) (by decide) (by show (q.i + 1) * 16 ≤ _; omega)) rfl ?_
    refine go ?_
    refine J_take 2 [(0, vP), (3, .sl (.l 0) (q.i + 1) 0 (q.i + 1)), (13, .sl (.l 1) s.reads.size 0 s.reads.size), (14, .p (.int .i64 (s.reads.size : Int))), (15, .p (.int .i64 (IntKind.i64.wrap ((q.i : Int) + 1))))] ⟨rfl, rfl, rfl, rfl, rfl, trivial⟩ rfl rfl ?_
    refine J_again ⟨q.i + 1, by omega⟩ (by show s.reads.size - (q.i + 1) < s.reads.size - q.i; omega) ⟨rfl, rfl, rfl, rfl, congrArg (fun z => TV.p (.int .i64 z)) (by rw [IntWalk.i64_in _ (by omega)]; rfl), trivial⟩ rfl (by show [AObj.arr _ _ _ _, _] = [AObj.arr _ _ _ _, _]; rw [← ks_take hx]; rfl)
  have e : q.i = s.reads.size := by omega
  rw [e, ← hrl, List.take_length, hrl]
  refine K_condF rfl (decide_eq_false (by omega)) ?_
  refine J_take 1 [(3, .sl (.l 0) s.reads.size 0 s.reads.size)] ⟨rfl, trivial⟩ rfl rfl ?_
  refine go ?_
  exact J_give hT rfl rfl
end Go.Proofs.Ytbdijekfplpnlaa

/- Contracts and plain laws, several texts joined: F14c, F14d, F14e, Shp, F14f, Tr6, Tr7. -/
import Derived.Test.YtfnpelogfcnanaaGreatDoorGo
import Derived.Test.YtfnpelogfcnanaaGreatDoorM5
/- view: slices.Clone, Ranges, Copy, all, Reads. -/
-- @D
namespace Go.Proofs.YtfnpelogfcnanaaGreatDoor
set_option maxRecDepth 20000
open Go.Awp Tr
theorem rgV_cl (l : List Rg) : clR (l.map rgV) := by
  intro r hr x hx
  obtain ⟨y, _, rfl⟩ := List.mem_map.1 hr
  simp [cellsOf, rgV] at hx
  rcases hx with rfl | rfl <;> rfl
theorem rgV_size (l : List Rg) : ∀ r ∈ l.map rgV, (cellsOf r).length = 2 := by
  intro r hr
  obtain ⟨y, _, rfl⟩ := List.mem_map.1 hr
  rfl
theorem rgClone_spec (l : List Rg) (hl : l.length ≤ big40) : Con Tryz.prog 74 [.sl (.o 0) l.length 0 l.length] [vR l] (.sl (.l 0) l.length 0 l.length) [vR l] [vR l] := by
  cases l with
  | nil =>
    have hrd : ∀ L, Rd [vR []] L (.sl (.o 0) 0 0 0) [] := fun L => Rd.full rfl rfl
    refine con_of Tryz.func74 rfl (by kernel_rfl) rfl fun F w0 β0 => ?_
    refine K_tell rfl ?_
    refine go ?_
    refine J_slNil hT rfl rfl rfl rfl rfl rfl rfl (fun b => ?_)
    cases b with
    | true =>
      refine go ?_
      refine J_lazyE 2 113 (e := 2) rfl rfl (.inl rfl) ?_
      exact J_give hT rfl rfl
    | false =>
      refine go ?_
      refine K_op rfl rfl (opr_app_nothing (d := .cz) hT rfl rfl (.inr rfl) rfl rfl (.rd (hrd _)) hbs_sl) rfl ?_
      refine go ?_
      refine J_lazyE 2 113 (e := 2) rfl rfl (.inr rfl) ?_
      exact J_give hT rfl rfl
  | cons r rs =>
    have hrd : ∀ L, Rd [vR (r :: rs)] L (.sl (.o 0) (r :: rs).length 0 (r :: rs).length) ((r :: rs).map rgV) := fun L => Rd.full rfl (by simp)
    generalize hn : r :: rs = m at hrd hl
    have h0 : 0 < m.length := by rw [← hn]; simp
    unfold big40 at hl
    refine con_of Tryz.func74 rfl (by kernel_rfl) rfl fun F w0 β0 => ?_
    refine K_tell rfl ?_
    refine go ?_
    refine K_op rfl rfl (opr_slNe hT rfl rfl rfl rfl rfl (by simp) h0) rfl ?_
    refine go ?_
    refine K_op rfl rfl (opr_app_new hT rfl rfl (.inr rfl) rfl (.rd (hrd _)) hbs_sl (rgV_cl m) (rgV_size m) (by decide) (by decide) (by simpa using h0) (by simp; omega)) rfl ?_
    rw [List.length_map]
    refine go ?_
    exact J_give hT rfl rfl
theorem vcopy_spec (s : VS) (hr : s.ranges.length ≤ big40) : Con Tryz.prog 29 [vP] (vH s) (.ad (.l 0) 0) (vH s) (vN s) := by
  refine con_of Tryz.func29 rfl (by kernel_rfl) rfl fun F w0 β0 => ?_
  refine K_tell rfl ?_
  refine go ?_
  refine K_op rfl rfl (opr_callS [.o 1] rfl rfl (rgClone_spec s.ranges hr) rfl rfl rfl ⟨⟨rfl, rfl⟩, trivial⟩ rfl rfl rfl rfl) rfl ?_
  refine go ?_
  exact J_give hT rfl rfl
structure Ix (n : Nat) where
  i : Nat
  h : i ≤ n
theorem map_take1 {α β : Type} (f : α → β) {l : List α} {i : Nat} {x : α} (hx : l[i]? = some x) : (l.take i).map f ++ [f x] = (l.take (i + 1)).map f := by
  obtain ⟨h, rfl⟩ := List.getElem?_eq_some_iff.1 hx
  rw [List.take_succ_eq_append_getElem h, List.map_append]
  rfl
theorem kvs_take {l : List KV} {i : Nat} {x : KV} (hx : l[i]? = some x) : kvs (l.take i) ++ [kvV x] = kvs (l.take (i + 1)) := map_take1 kvV hx
set_option maxHeartbeats 4000000 in
theorem vall_spec (t : Tr) (ht : t.size ≤ big40) : Con Tryz.prog 75 [W t] [] (.sl (.l 0) t.size 0 t.size) [] [.arr 47 true 3 (kvs t.row)] := by
  have hrl := row_len t
  have hat := atZ_row t
  generalize t.row = l at hrl hat
  have ht2 := ht
  unfold big40 at ht2
  refine con_of Tryz.func75 rfl (by kernel_rfl) rfl fun F w0 β0 => ?_
  refine K_tell rfl ?_
  refine go ?_
  refine K_op rfl rfl (opr_callP rfl rfl (tlen_spec t) rfl rfl rfl rfl) rfl ?_
  refine go ?_
  refine J_lazyE 3 47 (e := 3) rfl rfl (.inl rfl) ?_
  refine J_loop (fun q : Ix t.size => [(0, W t), (3, .sl (.l 0) q.i 0 q.i), (8, .p (.int .i64 (t.size : Int))), (9, .p (.int .i64 (q.i : Int)))]) (fun _ => []) (fun q => [.arr 47 true 3 (kvs (l.take q.i))]) (fun q => t.size - q.i) ⟨0, by omega⟩ ⟨rfl, rfl, rfl, rfl, trivial⟩ rfl rfl (fun q => ?_)
  have hi := q.h
  have hlt : (kvs (l.take q.i)).length = q.i := by simp; omega
  refine go ?_
  by_cases h : q.i < t.size
  · have hx : l[q.i]? = some (l[q.i]'(by omega)) := List.getElem?_eq_getElem _
    generalize l[q.i]'(by omega) = x at hx
    have a1 : atZ t (q.i : Int) = some x := by rw [hat, if_neg (by omega), Int.toNat_natCast, hx]
    have d1 := tat_spec t (q.i : Int) ht (by omega)
    rw [a1] at d1
    refine K_condT rfl (decide_eq_true (by omega)) ?_
    refine go ?_
    refine K_op rfl rfl (opr_callP rfl rfl (d1) rfl rfl rfl rfl) rfl ?_
    refine go ?_
    refine K_op rfl rfl (opr_app_own hT rfl rfl rfl rfl hlt rfl rfl (.rd (.ps _)) hbs_ps (kvs_cl [x]) (kvs_size [x]) (by decide) (by show (q.i + 1) * 40 ≤ _; omega)) rfl ?_
    refine go ?_
    refine J_take 1 [(0, W t), (3, .sl (.l 0) (q.i + 1) 0 (q.i + 1)), (8, .p (.int .i64 (t.size : Int))), (9, .p (.int .i64 (IntKind.i64.wrap ((q.i : Int) + 1))))] ⟨rfl, rfl, rfl, rfl, trivial⟩ rfl rfl ?_
    refine J_again ⟨q.i + 1, by omega⟩ (by show t.size - (q.i + 1) < t.size - q.i; omega) ⟨rfl, rfl, rfl, congrArg (fun z => TV.p (.int .i64 z)) (by rw [IntWalk.i64_in _ (by omega)]; rfl), trivial⟩ rfl (by show [AObj.arr _ _ _ _] = [AObj.arr _ _ _ _]; rw [← kvs_take hx]; rfl)
  have e : q.i = t.size := by omega
  rw [e, ← hrl, List.take_length, hrl]
  refine K_condF rfl (decide_eq_false (by omega)) ?_
  refine go ?_
  exact J_give hT rfl rfl
def ksV (l : List KV) : List AV := l.map fun x => .str x.1
theorem ks_cl (l : List KV) : clR (ksV l) := by
  intro r hr x hx
  obtain ⟨y, _, rfl⟩ := List.mem_map.1 hr
  simp [cellsOf] at hx
  subst hx; rfl
theorem ks_size (l : List KV) : ∀ r ∈ ksV l, (cellsOf r).length = 1 := by
  intro r hr
  obtain ⟨y, _, rfl⟩ := List.mem_map.1 hr
  rfl
theorem ks_take {l : List KV} {i : Nat} {x : KV} (hx : l[i]? = some x) : ksV (l.take i) ++ [.str x.1] = ksV (l.take (i + 1)) := map_take1 (fun y : KV => AV.str y.1) hx
end Go.Proofs.YtfnpelogfcnanaaGreatDoor

/- view: Writes. -/
-- @D
namespace Go.Proofs.YtfnpelogfcnanaaGreatDoor
set_option maxRecDepth 20000
open Go.Awp Tr
/-- A write, as it is told: the value stands behind a mark; without one the key is gone. -/
def wr (x : KV) : PW := (x.1, x.2.drop 1, x.2 == [])
theorem set_mid {α : Type} (A : List α) (x y : α) (B : List α) (i : Nat) (h : A.length = i) : (A ++ x :: B).set (0 + i) y = A ++ y :: B := by
  subst h
  rw [Nat.zero_add, List.set_append_right _ _ (Nat.le_refl _), Nat.sub_self]
  rfl
theorem get_mid {α : Type} (A : List α) (x : α) (B : List α) (i : Nat) (h : A.length = i) : (A ++ x :: B)[i]? = some x := by
  subst h
  rw [List.getElem?_append_right (Nat.le_refl _), Nat.sub_self]
  rfl
/-- So far as they are told. -/
def wrS (l : List KV) (i : Nat) : List AV := (l.take i).map (fun x => pwV (wr x)) ++ (l.drop i).map kvV
set_option maxHeartbeats 8000000 in
theorem vwrites_spec (s : VS) (hw : s.writes.size ≤ big40) : Con Tryz.prog 30 [vP] (vH s) (.sl (.l 0) s.writes.size 0 s.writes.size) (vH s) [.arr 47 true 3 (s.writes.row.map fun x => pwV (wr x))] := by
  have hrl := row_len s.writes
  have c1 := vall_spec s.writes hw
  generalize s.writes.row = l at hrl c1
  have hlk : (kvs l).length = s.writes.size := by simpa using hrl
  unfold big40 at hw
  refine con_of Tryz.func30 rfl (by kernel_rfl) rfl fun F w0 β0 => ?_
  refine K_tell rfl ?_
  refine go ?_
  refine K_op rfl rfl (opr_callP rfl rfl (c1) rfl rfl rfl rfl) rfl ?_
  refine go ?_
  refine K_op rfl rfl (opr_len_rd hT rfl rfl (Rd.own rfl hlk)) rfl ?_
  rw [hlk]
  refine go ?_
  refine J_loop (fun q : Ix s.writes.size => [(0, vP), (3, .sl (.l 0) s.writes.size 0 s.writes.size), (13, .sl (.l 0) s.writes.size 0 s.writes.size), (14, .p (.int .i64 (s.writes.size : Int))), (15, .p (.int .i64 (q.i : Int)))]) (fun _ => vH s) (fun q => [.arr 47 true 3 (wrS l q.i)]) (fun q => s.writes.size - q.i) ⟨0, by omega⟩ ⟨rfl, rfl, rfl, rfl, rfl, trivial⟩ rfl rfl (fun q => ?_)
  have hi := q.h
  refine go ?_
  by_cases h : q.i < s.writes.size
  · have hil : q.i < l.length := by omega
    have hx : l[q.i]? = some l[q.i] := List.getElem?_eq_getElem hil
    have hdr : l.drop q.i = l[q.i] :: l.drop (q.i + 1) := List.drop_eq_getElem_cons hil
    have hmt := map_take1 (fun x => pwV (wr x)) hx
    have hA : ((l.take q.i).map fun x => pwV (wr x)).length = q.i := by simp; omega
    have hB : ((l.drop (q.i + 1)).map kvV).length = s.writes.size - (q.i + 1) := by simp; omega
    have e0 : wrS l q.i = ((l.take q.i).map fun x => pwV (wr x)) ++ kvV l[q.i] :: (l.drop (q.i + 1)).map kvV := by unfold wrS; rw [hdr]; rfl
    have e1 : wrS l (q.i + 1) = ((l.take q.i).map fun x => pwV (wr x)) ++ pwV (wr l[q.i]) :: (l.drop (q.i + 1)).map kvV := by
      unfold wrS; rw [← hmt, List.append_assoc]; rfl
    generalize l[q.i] = x at hx e0 e1
    rw [e0]
    generalize hC : wrS l (q.i + 1) = C at e1
    generalize (l.take q.i).map (fun x => pwV (wr x)) = A at hA e1
    generalize (l.drop (q.i + 1)).map kvV = B at hB e1
    have hl1 : ∀ y : AV, (A ++ y :: B).length = s.writes.size := fun y => by simp [hA, hB]; omega
    have hg : ∀ y : AV, (A ++ y :: B)[((q.i : Nat) : Int).toNat]? = some y := fun y => by rw [Int.toNat_natCast]; exact get_mid A y B q.i hA
    refine K_condT rfl (decide_eq_true (by omega)) ?_
    refine go ?_
    refine K_op rfl rfl (opr_index hT rfl rfl rfl rfl rfl (Rd.own rfl (hl1 _)) (by omega) (by rw [hl1]; omega)) rfl ?_
    refine go ?_
    refine K_op rfl rfl (opr_load_el hT rfl rfl (Rd.own rfl (hl1 _)) (hg _) rfl rfl) rfl ?_
    refine go ?_
    refine K_op rfl rfl (opr_index hT rfl rfl rfl rfl rfl (Rd.own rfl (hl1 _)) (by omega) (by rw [hl1]; omega)) rfl ?_
    refine go ?_
    refine K_op rfl rfl (opr_storeEl hT rfl rfl rfl (hl1 _) rfl rfl rfl (by rw [Nat.zero_add]; exact hg _) rfl (Nat.le_of_ble_eq_true rfl) (by simp [cl]) (fun _ => rfl)) rfl ?_
    rw [Int.toNat_natCast, set_mid A _ _ B q.i hA, show rowSet (kvV x) (0 + 2) [.bool (x.2 == [])] = pwV (x.1, x.2, x.2 == []) from rfl]
    refine go ?_
    have hmin : mmA .min 1 (x.2.length : Int) = ((min 1 x.2.length : Nat) : Int) := by unfold mmA; simp only []; split <;> omega
    rw [hmin]
    refine K_op rfl rfl (opr_cut_str hT rfl rfl rfl rfl rfl (by omega) (by omega) (by omega)) rfl ?_
    have hcut : ((x.2.drop ((min 1 x.2.length : Nat) : Int).toNat).take ((x.2.length : Int).toNat - ((min 1 x.2.length : Nat) : Int).toNat)) = x.2.drop 1 := by
      cases hx2 : x.2 with
      | nil => rfl
      | cons a r =>
        rw [show min 1 (a :: r).length = 1 by simp]
        simp
    rw [hcut]
    refine go ?_
    refine K_op rfl rfl (opr_index hT rfl rfl rfl rfl rfl (Rd.own rfl (hl1 _)) (by omega) (by rw [hl1]; omega)) rfl ?_
    refine go ?_
    refine K_op rfl rfl (opr_storeEl hT rfl rfl rfl (hl1 _) rfl rfl rfl (by rw [Nat.zero_add]; exact hg _) rfl (Nat.le_of_ble_eq_true rfl) (by simp [cl]) (fun _ => rfl)) rfl ?_
    rw [Int.toNat_natCast, set_mid A _ _ B q.i hA, show rowSet (pwV (x.1, x.2, x.2 == [])) (0 + 1) [.str (x.2.drop 1)] = pwV (wr x) from rfl, ← e1]
    refine go ?_
    refine J_take 1 [(0, vP), (3, .sl (.l 0) s.writes.size 0 s.writes.size), (13, .sl (.l 0) s.writes.size 0 s.writes.size), (14, .p (.int .i64 (s.writes.size : Int))), (15, .p (.int .i64 (IntKind.i64.wrap ((q.i : Int) + 1))))] ⟨rfl, rfl, rfl, rfl, rfl, trivial⟩ rfl rfl ?_
    refine J_again ⟨q.i + 1, by omega⟩ (by show s.writes.size - (q.i + 1) < s.writes.size - q.i; omega) ⟨rfl, rfl, rfl, rfl, congrArg (fun z => TV.p (.int .i64 z)) (by rw [IntWalk.i64_in _ (by omega)]; rfl), trivial⟩ rfl (by rw [← hC]; rfl)
  have e : wrS l q.i = l.map fun x => pwV (wr x) := by
    unfold wrS
    rw [List.take_of_length_le (by omega), List.drop_eq_nil_of_le (by omega)]
    simp
  rw [e]
  refine K_condF rfl (decide_eq_false (by omega)) ?_
  refine go ?_
  exact J_give hT rfl rfl
end Go.Proofs.YtfnpelogfcnanaaGreatDoor

/- The laws of layer 14: fixed. -/
-- @D
namespace Go.Proofs.YtfnpelogfcnanaaGreatDoor
set_option maxRecDepth 20000
open Go.Awp Tr
theorem fixed14_parts : ∃ (t1 : Tr) (s0 s1 s2 s3 : VS), Con Tryz.prog 53 [W .nil, .p (.str [97]), .p (.str [49])] [] (W t1) [] [] ∧ Con Tryz.prog 11 [W t1] [] (.ad (.l 0) 0) [] (vN s0)
    ∧ Con Tryz.prog 107 [vP, .p (.str [97])] (vH s0) (.p (.bool true)) (vH s1) [] ∧ Con Tryz.prog 108 [vP, .p (.str [98]), .p (.str [50])] (vH s1) (.p (.bool true)) (vH s2) []
    ∧ Con Tryz.prog 19 [vP, .p (.str []), .p (.str [122])] (vH s2) (.p (.ps [kvV ([98], [50])])) (vH s3) []
    ∧ Con Tryz.prog 30 [vP] (vH s3) (.p (.ps [pwV ([97], [], true), pwV ([98], [50], false)])) (vH s3) [] :=
  ⟨_, _, _, _, _, tset_spec [97] [49] .nil (by decide), vnew_spec _, vcut_spec _ [97] (by decide) (by decide), vset_spec _ [98] [50] (by decide) (by decide) (by decide),
    (vrange_spec _ [] [122] (by decide) (by decide)).toPs (.inl rfl), Con.freeze (vwrites_spec _ (by decide)) rfl⟩
end Go.Proofs.YtfnpelogfcnanaaGreatDoor

/- Rows as they are read; how far a row is gone through. -/
-- @D
namespace Go.Proofs.YtfnpelogfcnanaaGreatDoor
set_option maxRecDepth 20000
open Go.Awp
/-- A slice that stays, of rows. -/
inductive Sl {α : Type} (mk : α → AV) : AV → List α → Prop
  | nils : Sl mk .nils []
  | ps (l : List α) : Sl mk (.ps (l.map mk)) l
theorem Sl.rd {α : Type} {mk : α → AV} {s : AV} {l : List α} (h : Sl mk s l) (H L : List AObj) : Rd H L (.p s) (l.map mk) := by
  cases h with
  | nils => exact .nils
  | ps => exact .ps _
theorem shp_agg {α : Type} (mk : α → AV) (ok : α → Prop) {t e : Nat} {te : TyI} {ls : List Nat} {a : AV} (h : Shp tab 8 t a) (ht : tyD tab t = .slice e) (hte : tlk tab e = some te) (hls : leaves tab 7 e = some ls) (hag : isAggD te.d = some true) (hb : 0 < te.bytes)
    (hrow : ∀ cs, All2 (Shp tab 7) ls cs → ∃ x, AV.agg cs = mk x ∧ ok x) : ∃ l, Sl mk a l ∧ (∀ x ∈ l, ok x) ∧ l.length ≤ 140737488355328 := by
  rcases h.slice ht with rfl | ⟨rows, te', ls', rfl, hte', hls', hlen, hrows⟩
  · exact ⟨[], .nils, by simp, by simp⟩
  · rw [hte] at hte'
    obtain rfl := Option.some.inj hte'
    rw [hls] at hls'
    obtain rfl := Option.some.inj hls'
    have key : ∀ rows : List AV, (∀ r ∈ rows, All2 (Shp tab 7) ls (cellsOf r) ∧ (∀ y, isAggD te.d = some false → cellsOf r = [y] → r = y) ∧ (isAggD te.d = some true → ∃ cs, r = .agg cs)) → ∃ l : List α, rows = l.map mk ∧ ∀ x ∈ l, ok x := by
      intro rows
      induction rows with
      | nil => intro _; exact ⟨[], rfl, by simp⟩
      | cons r rs ih =>
        intro hr
        obtain ⟨l, hl, hok⟩ := ih fun r' h' => hr r' (by simp [h'])
        obtain ⟨h1, _, h2⟩ := hr r (by simp)
        obtain ⟨cs, rfl⟩ := h2 hag
        obtain ⟨x, hx, hxo⟩ := hrow cs h1
        refine ⟨x :: l, by rw [hl, hx]; rfl, fun o ho => ?_⟩
        rcases List.mem_cons.1 ho with rfl | ho
        · exact hxo
        · exact hok o ho
    obtain ⟨l, rfl, hok⟩ := key rows hrows
    refine ⟨l, .ps l, hok, ?_⟩
    unfold Go.Awp.reach at hlen
    have := Nat.le_mul_of_pos_right (l.map mk).length hb
    simp only [List.length_map] at hlen this
    omega
theorem shp_one {α : Type} (mk : α → AV) (ok : α → Prop) {t e : Nat} {te : TyI} {a : AV} (h : Shp tab 8 t a) (ht : tyD tab t = .slice e) (hte : tlk tab e = some te) (hls : leaves tab 7 e = some [e]) (hag : isAggD te.d = some false) (hb : 0 < te.bytes)
    (hrow : ∀ y, Shp tab 7 e y → ∃ x, y = mk x ∧ ok x) : ∃ l, Sl mk a l ∧ (∀ x ∈ l, ok x) ∧ l.length ≤ 140737488355328 := by
  rcases h.slice ht with rfl | ⟨rows, te', ls', rfl, hte', hls', hlen, hrows⟩
  · exact ⟨[], .nils, by simp, by simp⟩
  · rw [hte] at hte'
    obtain rfl := Option.some.inj hte'
    rw [hls] at hls'
    obtain rfl := Option.some.inj hls'
    have key : ∀ rows : List AV, (∀ r ∈ rows, All2 (Shp tab 7) [e] (cellsOf r) ∧ (∀ y, isAggD te.d = some false → cellsOf r = [y] → r = y) ∧ (isAggD te.d = some true → ∃ cs, r = .agg cs)) → ∃ l : List α, rows = l.map mk ∧ ∀ x ∈ l, ok x := by
      intro rows
      induction rows with
      | nil => intro _; exact ⟨[], rfl, by simp⟩
      | cons r rs ih =>
        intro hr
        obtain ⟨l, hl, hok⟩ := ih fun r' h' => hr r' (by simp [h'])
        obtain ⟨h1, h2, _⟩ := hr r (by simp)
        generalize hT7 : Shp tab 7 = S at h1 hrow
        obtain ⟨y, hy, hys⟩ : ∃ y, cellsOf r = [y] ∧ S e y := by
          match cellsOf r, h1 with
          | [y], h1 => exact ⟨y, rfl, h1.1⟩
        obtain rfl := h2 y hag hy
        obtain ⟨x, hx, hxo⟩ := hrow _ hys
        refine ⟨x :: l, by rw [hl, hx]; rfl, fun o ho => ?_⟩
        rcases List.mem_cons.1 ho with rfl | ho
        · exact hxo
        · exact hok o ho
    obtain ⟨l, rfl, hok⟩ := key rows hrows
    refine ⟨l, .ps l, hok, ?_⟩
    unfold Go.Awp.reach at hlen
    have := Nat.le_mul_of_pos_right (l.map mk).length hb
    simp only [List.length_map] at hlen this
    omega
theorem all2_3 {R : Nat → AV → Prop} {a b c : Nat} {cs : List AV} (h : All2 R [a, b, c] cs) : ∃ x y z, cs = [x, y, z] ∧ R a x ∧ R b y ∧ R c z := by
  match cs, h with
  | [x, y, z], h => exact ⟨x, y, z, rfl, h.1, h.2.1, h.2.2.1⟩
theorem all2_2 {R : Nat → AV → Prop} {a b : Nat} {cs : List AV} (h : All2 R [a, b] cs) : ∃ x y, cs = [x, y] ∧ R a x ∧ R b y := by
  match cs, h with
  | [x, y], h => exact ⟨x, y, rfl, h.1, h.2.1⟩
/-! ### How far a row is gone through -/
section
variable {α : Type} (stop : Nat → α → Bool)
def cutG : List α → Nat → Nat
  | [], i => i
  | o :: r, i => if stop i o = true then i else cutG r (i + 1)
theorem cutG_step {l : List α} {i : Nat} {o : α} (h : l[i]? = some o) : cutG stop (l.drop i) i = if stop i o = true then i else cutG stop (l.drop (i + 1)) (i + 1) := by
  obtain ⟨h2, rfl⟩ := List.getElem?_eq_some_iff.1 h
  rw [List.drop_eq_getElem_cons h2]
  rfl
theorem cutG_end {l : List α} {i : Nat} (h : l.length ≤ i) : cutG stop (l.drop i) i = i := by
  rw [List.drop_eq_nil_of_le h]; rfl
theorem cutG_le : ∀ (l : List α) (i : Nat), cutG stop l i ≤ i + l.length
  | [], i => by simp [cutG]
  | o :: r, i => by
    have := cutG_le r (i + 1)
    unfold cutG
    split
    · simp
    · simp only [List.length_cons]; omega
theorem cutG_max {n : Nat} (hn : ∀ i o, n ≤ i → stop i o = true) : ∀ (l : List α) (i : Nat), i ≤ n → cutG stop l i ≤ n
  | [], _, h => h
  | o :: r, i, h => by
    unfold cutG
    split
    · exact h
    · rename_i hs
      refine cutG_max hn r (i + 1) ?_
      rcases Nat.lt_or_ge i n with h1 | h1
      · omega
      · exact absurd (hn i o h1) hs
theorem cutG_all : ∀ (l : List α) (i : Nat), ∀ x ∈ l.take (cutG stop l i - i), ∃ j, stop j x = false
  | [], i, x, h => by simp [cutG] at h
  | o :: r, i, x, h => by
    unfold cutG at h
    split at h
    · simp at h
    · rename_i hs
      have hle : i + 1 ≤ cutG stop r (i + 1) := by
        have : ∀ (l : List α) (i : Nat), i ≤ cutG stop l i := by
          intro l
          induction l with
          | nil => intro i; exact Nat.le_refl _
          | cons a l ih =>
            intro i
            unfold cutG
            split
            · exact Nat.le_refl _
            · have := ih (i + 1); omega
        exact this r (i + 1)
      rw [show cutG stop r (i + 1) - i = (cutG stop r (i + 1) - (i + 1)) + 1 by omega, List.take_succ_cons, List.mem_cons] at h
      rcases h with rfl | h
      · exact ⟨i, by simpa using hs⟩
      · exact cutG_all r (i + 1) x h
structure CG (l : List α) where
  i : Nat
  h : i ≤ l.length
  e : cutG stop (l.drop i) i = cutG stop l 0
end
end Go.Proofs.YtfnpelogfcnanaaGreatDoor

/- The laws of layer 14: what is read, cut, Base. -/
-- @D
namespace Go.Proofs.YtfnpelogfcnanaaGreatDoor
set_option maxRecDepth 20000
open Go.Awp Tr
theorem strs_shp {a : AV} (h : Shp tab 8 102 a) : ∃ l : List (List UInt8), Sl .str a l ∧ (∀ x ∈ l, x.length ≤ Go.Awp.reach) ∧ l.length ≤ 140737488355328 :=
  shp_one .str _ h rfl rfl rfl rfl (by decide) fun y hy => by
    obtain ⟨l, rfl, hl⟩ := hy.str rfl
    exact ⟨l, rfl, hl⟩
theorem rgs_shp {a : AV} (h : Shp tab 8 95 a) : ∃ l : List Rg, Sl rgV a l ∧ (∀ x ∈ l, x.1.length ≤ Go.Awp.reach ∧ x.2.length ≤ Go.Awp.reach) ∧ l.length ≤ 140737488355328 :=
  shp_agg rgV _ h rfl rfl rfl rfl (by decide) fun cs hc => by
    obtain ⟨x, y, rfl, hx, hy⟩ := all2_2 hc
    obtain ⟨k, rfl, hk⟩ := hx.str rfl
    obtain ⟨v, rfl, hv⟩ := hy.str rfl
    exact ⟨(k, v), rfl, hk, hv⟩
/-- An operation of a view. -/
structure VOp where
  kind : Int
  key : List UInt8
  val : List UInt8
def vopV (o : VOp) : AV := .agg [.int .i64 o.kind, .str o.key, .str o.val]
def stop14 (i : Nat) (o : VOp) : Bool := decide (200 ≤ i) || (decide (100 < o.key.length) || decide (100 < o.val.length))
theorem stop14_eq (i : Nat) (o : VOp) : (decide ((i : Int) ≥ 200) || decide ((o.key.length : Int) > 100) || decide ((o.val.length : Int) > 100)) = stop14 i o := by
  unfold stop14
  rw [Bool.or_assoc]
  congr 1
  · exact decide_eq_decide.2 (by omega)
  · congr 1 <;> exact decide_eq_decide.2 (by omega)
/-! ### Base -/
def stopB (i : Nat) (o : Rg) : Bool := decide (60 ≤ i) || (decide (100 < o.1.length) || decide (100 < o.2.length))
theorem stopB_eq (i : Nat) (o : Rg) : (decide ((i : Int) ≥ 60) || decide ((o.1.length : Int) > 100) || decide ((o.2.length : Int) > 100)) = stopB i o := by
  unfold stopB
  rw [Bool.or_assoc]
  congr 1
  · exact decide_eq_decide.2 (by omega)
  · congr 1 <;> exact decide_eq_decide.2 (by omega)
def putB (t : Tr) (r : Rg) : Tr := t.set r.1 r.2
def baseT (l : List Rg) : Tr := (l.take (cutG stopB l 0)).foldl putB .nil
theorem putB_ok (l : List Rg) : ∀ t : Tr, Rises t.row → Rises (l.foldl putB t).row ∧ (l.foldl putB t).size ≤ t.size + l.length := by
  induction l with
  | nil => intro t h; exact ⟨h, Nat.le_refl _⟩
  | cons r l ih =>
    intro t h
    have h2 : Rises (putB t r).row := by unfold putB; rw [set_row _ _ _ h]; exact lset_rises h
    obtain ⟨a, b⟩ := ih _ h2
    have := set_size r.1 r.2 t
    refine ⟨a, ?_⟩
    rw [List.foldl_cons, List.length_cons]
    unfold putB at b ⊢
    omega
theorem baseT_ok (l : List Rg) : Rises (baseT l).row ∧ (baseT l).size ≤ 60 := by
  have := putB_ok (l.take (cutG stopB l 0)) .nil (by simp [row, Rises])
  have h2 := cutG_max stopB (n := 60) (fun i o h => by unfold stopB; rw [decide_eq_true h]; rfl) l 0 (by omega)
  refine ⟨this.1, Nat.le_trans this.2 ?_⟩
  simp [Tr.size]; omega
end Go.Proofs.YtfnpelogfcnanaaGreatDoor

/- Trees: how low they are, whatever is made of them. -/
namespace Go.Proofs.YtfnpelogfcnanaaGreatDoor
set_option maxRecDepth 20000
open Go.Awp
theorem lset_mem_iff {k v : List UInt8} : ∀ {l : List KV}, Rises l → ∀ y : KV, y ∈ lset k v l ↔ y = (k, v) ∨ (y ∈ l ∧ y.1 ≠ k)
  | [], _, y => by simp [lset]
  | x :: r, h, y => by
    have hr := List.pairwise_cons.1 h
    unfold lset
    split
    · rename_i hlt
      simp only [List.mem_cons]
      constructor
      · rintro (h1 | h1 | h1)
        · exact .inl h1
        · exact .inr ⟨.inl h1, by rw [h1]; exact fun e => lt_ne hlt e.symm⟩
        · exact .inr ⟨.inr h1, fun e => lt_ne (lt_trans hlt (hr.1 y h1)) e.symm⟩
      · rintro (h1 | ⟨h1 | h1, _⟩)
        · exact .inl h1
        · exact .inr (.inl h1)
        · exact .inr (.inr h1)
    · split
      · rename_i he
        simp only [List.mem_cons]
        constructor
        · rintro (h1 | h1)
          · exact .inl h1
          · exact .inr ⟨.inr h1, fun e => lt_ne (hr.1 y h1) (by rw [e, he])⟩
        · rintro (h1 | ⟨h1 | h1, h2⟩)
          · exact .inl h1
          · exact absurd (by rw [h1, he]) h2
          · exact .inr h1
      · rename_i he
        simp only [List.mem_cons, lset_mem_iff hr.2 y]
        constructor
        · rintro (h1 | h1 | ⟨h1, h2⟩)
          · exact .inr ⟨.inl h1, by rw [h1]; exact fun e => he e.symm⟩
          · exact .inl h1
          · exact .inr ⟨.inr h1, h2⟩
        · rintro (h1 | ⟨h1 | h1, h2⟩)
          · exact .inr (.inl h1)
          · exact .inl h1
          · exact .inr (.inr ⟨h1, h2⟩)
theorem rises_ext : ∀ {l m : List KV}, Rises l → Rises m → (∀ x, x ∈ l ↔ x ∈ m) → l = m
  | [], [], _, _, _ => rfl
  | [], b :: m, _, _, h => by simpa using (h b).2 (by simp)
  | a :: l, [], _, _, h => by simpa using (h a).1 (by simp)
  | a :: l, b :: m, hl, hm, h => by
    have h1 := List.pairwise_cons.1 hl
    have h2 := List.pairwise_cons.1 hm
    have e : a = b := by
      rcases List.mem_cons.1 ((h a).1 (by simp)) with e | ha
      · exact e
      · rcases List.mem_cons.1 ((h b).2 (by simp)) with e | hb
        · exact e.symm
        · exact absurd (h2.1 a ha) (lt_asymm (h1.1 b hb))
    subst e
    rw [rises_ext h1.2 h2.2 fun x => ?_]
    constructor
    · intro hx
      rcases List.mem_cons.1 ((h x).1 (by simp [hx])) with e | hx2
      · subst e; exact absurd (h1.1 x hx) (lt_irrefl _)
      · exact hx2
    · intro hx
      rcases List.mem_cons.1 ((h x).2 (by simp [hx])) with e | hx2
      · subst e; exact absurd (h2.1 x hx) (lt_irrefl _)
      · exact hx2
namespace Tr
/-- Nowhere do the sides' heights differ by more than one. -/
def Bal : Tr → Prop
  | nil => True
  | node _ _ l r => Bal l ∧ Bal r ∧ l.high ≤ r.high + 1 ∧ r.high ≤ l.high + 1
theorem mul_both {p a b : Nat} (h : p ≤ a * a) (k : p ≤ b * b) : p ≤ a * b := by
  rcases Nat.le_total a b with e | e
  · exact Nat.le_trans h (Nat.mul_le_mul_left a e)
  · exact Nat.le_trans k (Nat.mul_le_mul_right b e)
theorem pow_step {a b h : Nat} (ha : 2 ^ h ≤ a * a) (hb : 2 ^ (h - 1) ≤ b * b) (a1 : 1 ≤ a) (b1 : 1 ≤ b) : 2 ^ (1 + h) ≤ (a + b) * (a + b) := by
  have e : (a + b) * (a + b) = a * a + 2 * (a * b) + b * b := by rw [Nat.add_mul, Nat.mul_add, Nat.mul_add, Nat.mul_comm b a]; omega
  rw [e]
  cases h with
  | zero =>
    have := Nat.mul_le_mul a1 a1
    have := Nat.mul_le_mul a1 b1
    have := Nat.mul_le_mul b1 b1
    omega
  | succ h =>
    rw [Nat.add_sub_cancel] at hb
    rw [show 1 + (h + 1) = h + 1 + 1 by omega, Nat.pow_succ, Nat.pow_succ] at *
    have := mul_both (p := 2 ^ h) (a := a) (b := b) (by omega) hb
    omega
theorem bal_pow : ∀ (t : Tr), Bal t → 2 ^ t.high ≤ (t.size + 1) * (t.size + 1)
  | nil, _ => by simp [high, size]
  | node _ _ l r, ⟨h1, h2, h3, h4⟩ => by
    have a := bal_pow l h1
    have b := bal_pow r h2
    rcases Nat.le_total r.high l.high with e | e
    · have := pow_step (h := l.high) a (Nat.le_trans (Nat.pow_le_pow_right (by omega) (by omega)) b) (by omega) (by omega)
      simp only [high, size]
      rw [show max l.high r.high = l.high by omega, show 1 + l.size + r.size + 1 = l.size + 1 + (r.size + 1) by omega]
      exact this
    · have := pow_step (h := r.high) b (Nat.le_trans (Nat.pow_le_pow_right (by omega) (by omega)) a) (by omega) (by omega)
      simp only [high, size]
      rw [show max l.high r.high = r.high by omega, show 1 + l.size + r.size + 1 = r.size + 1 + (l.size + 1) by omega]
      exact this
theorem bal_log {t : Tr} (h : Bal t) : t.high ≤ ((t.size + 1) * (t.size + 1)).log2 := by
  have h0 : (t.size + 1) * (t.size + 1) ≠ 0 := by have := Nat.mul_pos (show 0 < t.size + 1 by omega) (show 0 < t.size + 1 by omega); omega
  exact (Nat.le_log2 h0).2 (bal_pow t h)
theorem join_bal {k v : List UInt8} {l r : Tr} (hl : Bal l) (hr : Bal r) (h1 : l.high ≤ r.high + 2) (h2 : r.high ≤ l.high + 2) :
    Bal (join k v l r) ∧ max l.high r.high ≤ (join k v l r).high ∧ (join k v l r).high ≤ max l.high r.high + 1 ∧ (l.high ≤ r.high + 1 → r.high ≤ l.high + 1 → (join k v l r).high = 1 + max l.high r.high) := by
  unfold join
  by_cases c1 : (node k v l r).lean > 1
  · rw [if_pos c1]
    cases l with
    | nil => simp only [lean, high] at c1; omega
    | node k2 v2 a b =>
      obtain ⟨p1, p2, p3, p4⟩ := hl
      by_cases c2 : (node k2 v2 a b).lean < 0
      · rw [if_pos c2]
        cases b with
        | nil => simp only [lean, high] at c2; omega
        | node k3 v3 b1 b2 =>
          obtain ⟨q1, q2, q3, q4⟩ := p2
          simp only [lean, high] at c1 c2 h1 h2 p3 p4
          simp only [rotL, rotR, Bal, high]
          and_intros <;> first | assumption | trivial | omega | (intros; trivial) | (intros; omega)
      · rw [if_neg c2]
        simp only [lean, high] at c1 c2 h1 h2 p3 p4
        simp only [rotR, Bal, high]
        and_intros <;> first | assumption | trivial | omega | (intros; trivial) | (intros; omega)
  · rw [if_neg c1]
    by_cases c3 : (node k v l r).lean < -1
    · rw [if_pos c3]
      cases r with
      | nil => simp only [lean, high] at c3; omega
      | node k2 v2 a b =>
        obtain ⟨p1, p2, p3, p4⟩ := hr
        by_cases c2 : (node k2 v2 a b).lean > 0
        · rw [if_pos c2]
          cases a with
          | nil => simp only [lean, high] at c2; omega
          | node k3 v3 b1 b2 =>
            obtain ⟨q1, q2, q3, q4⟩ := p1
            simp only [lean, high] at c1 c2 c3 h1 h2 p3 p4
            simp only [rotL, rotR, Bal, high]
            and_intros <;> first | assumption | trivial | omega | (intros; trivial) | (intros; omega)
        · rw [if_neg c2]
          simp only [lean, high] at c1 c2 c3 h1 h2 p3 p4
          simp only [rotL, Bal, high]
          and_intros <;> first | assumption | trivial | omega | (intros; trivial) | (intros; omega)
    · rw [if_neg c3]
      simp only [lean] at c1 c3
      simp only [Bal, high]
      and_intros <;> first | assumption | trivial | omega | (intros; trivial) | (intros; omega)
theorem set_bal (k v : List UInt8) : ∀ (t : Tr), Bal t → Bal (t.set k v) ∧ t.high ≤ (t.set k v).high ∧ (t.set k v).high ≤ t.high + 1
  | nil, _ => by simp [set, Bal, high]
  | node k0 v0 l r, ⟨h1, h2, h3, h4⟩ => by
    obtain ⟨a1, a2, a3⟩ := set_bal k v l h1
    obtain ⟨b1, b2, b3⟩ := set_bal k v r h2
    simp only [set]
    split
    · obtain ⟨j1, j2, j3, j4⟩ := join_bal (k := k0) (v := v0) a1 h2 (by omega) (by omega)
      refine ⟨j1, ?_, ?_⟩ <;> simp only [high] <;> omega
    · split
      · exact ⟨⟨h1, h2, h3, h4⟩, by simp only [high]; omega, by simp only [high]; omega⟩
      · obtain ⟨j1, j2, j3, j4⟩ := join_bal (k := k0) (v := v0) h1 b1 (by omega) (by omega)
        refine ⟨j1, ?_, ?_⟩ <;> simp only [high] <;> omega
theorem cut_bal : ∀ (t : Tr) (k : List UInt8), Bal t → Bal (t.cut k) ∧ (t.cut k).high ≤ t.high ∧ t.high ≤ (t.cut k).high + 1
  | nil, k, _ => by simp [cut, Bal, high]
  | node k0 v0 l r, k, ⟨h1, h2, h3, h4⟩ => by
    obtain ⟨a1, a2, a3⟩ := cut_bal l k h1
    obtain ⟨b1, b2, b3⟩ := cut_bal r k h2
    have h5 := fun k' => cut_bal r k' h2
    unfold cut
    split
    · exact ⟨⟨h1, h2, h3, h4⟩, by omega, by omega⟩
    · split
      · obtain ⟨j1, j2, j3, j4⟩ := join_bal (k := k0) (v := v0) a1 h2 (by omega) (by omega)
        refine ⟨j1, ?_, ?_⟩ <;> simp only [high] <;> omega
      · split
        · split
          · exact ⟨h2, by simp only [high]; omega, by simp only [high] at *; omega⟩
          · exact ⟨h1, by simp only [high]; omega, by simp only [high] at *; omega⟩
          · rename_i a b c d e f g h _
            obtain ⟨c1, c2, c3⟩ := h5 (node e f g h).min.1
            obtain ⟨j1, j2, j3, j4⟩ := join_bal (k := (node e f g h).min.1) (v := (node e f g h).min.2) h1 c1 (by omega) (by omega)
            refine ⟨j1, ?_, ?_⟩ <;> rw [high] <;> omega
        · obtain ⟨j1, j2, j3, j4⟩ := join_bal (k := k0) (v := v0) h1 b1 (by omega) (by omega)
          refine ⟨j1, ?_, ?_⟩ <;> simp only [high] <;> omega
end Tr
end Go.Proofs.YtfnpelogfcnanaaGreatDoor

/- Rows that rise, as maps. -/
namespace Go.Proofs.YtfnpelogfcnanaaGreatDoor
set_option maxRecDepth 20000
open Go.Awp
theorem lget_some {k v : List UInt8} : ∀ {l : List KV}, Rises l → (lget k l = some v ↔ (k, v) ∈ l)
  | [], _ => by simp [lget]
  | x :: r, h => by
    have hp := List.pairwise_cons.1 h
    unfold lget
    split
    · rename_i e
      subst e
      constructor
      · intro h1
        obtain rfl := Option.some.inj h1
        simp
      · intro h1
        rcases List.mem_cons.1 h1 with h1 | h1
        · rw [← h1]
        · exact absurd (hp.1 _ h1) (lt_irrefl _)
    · rename_i e
      rw [lget_some hp.2, List.mem_cons]
      exact ⟨.inr, fun h1 => h1.resolve_left fun h2 => e (by rw [← h2])⟩
theorem lget_lset {k v kk : List UInt8} : ∀ {l : List KV}, Rises l → lget kk (lset k v l) = if kk = k then some v else lget kk l
  | [], _ => by
    simp only [lset, lget]
    by_cases e : kk = k
    · rw [if_pos e.symm, if_pos e]
    · rw [if_neg (fun h => e h.symm), if_neg e]
  | x :: r, h => by
    have hp := List.pairwise_cons.1 h
    unfold lset
    split
    · simp only [lget]
      by_cases e : kk = k
      · rw [if_pos e.symm, if_pos e]
      · rw [if_neg (fun h => e h.symm), if_neg e]
    · split
      · rename_i e0
        simp only [lget]
        by_cases e : kk = k
        · rw [if_pos e.symm, if_pos e]
        · rw [if_neg (fun h => e h.symm), if_neg e, if_neg (fun h => e (by rw [← h, e0]))]
      · rename_i e0
        simp only [lget]
        by_cases e1 : x.1 = kk
        · rw [if_pos e1, if_pos e1, if_neg (fun e => e0 (by rw [← e, e1]))]
        · rw [if_neg e1, if_neg e1, lget_lset hp.2]
theorem lget_lcut {k kk : List UInt8} : ∀ {l : List KV}, lget kk (lcut k l) = if kk = k then none else lget kk l
  | [] => by simp [lcut, lget]
  | x :: r => by
    have ih := lget_lcut (k := k) (kk := kk) (l := r)
    unfold lcut at ih ⊢
    rw [List.filter_cons]
    by_cases e : x.1 = k
    · rw [if_neg (by simp [e]), ih]
      by_cases e2 : kk = k
      · rw [if_pos e2, if_pos e2]
      · rw [if_neg e2, if_neg e2, lget, if_neg (fun h => e2 (by rw [← h, e]))]
    · rw [if_pos (by simp [e])]
      simp only [lget]
      by_cases e1 : x.1 = kk
      · rw [if_pos e1, if_pos e1, if_neg (fun h => e (by rw [e1, h]))]
      · rw [if_neg e1, if_neg e1, ih]
theorem lset_length {k v : List UInt8} : ∀ {l : List KV}, Rises l → (lset k v l).length = if (lget k l).isSome = true then l.length else l.length + 1
  | [], _ => by simp [lset, lget]
  | x :: r, h => by
    have hp := List.pairwise_cons.1 h
    unfold lset
    split
    · rename_i hlt
      have : lget k (x :: r) = none := lget_none fun y hy => by
        rcases List.mem_cons.1 hy with rfl | hy
        · exact fun e => lt_ne hlt e.symm
        · exact fun e => lt_ne (lt_trans hlt (hp.1 y hy)) e.symm
      rw [this]; rfl
    · split
      · rename_i e
        simp [lget, e]
      · rename_i e
        have e' : lget k (x :: r) = lget k r := by rw [lget, if_neg (fun h => e h.symm)]
        rw [e', List.length_cons, lset_length hp.2, List.length_cons]
        split <;> rfl
theorem lcut_length {k : List UInt8} {l : List KV} (h : Rises l) : (lcut k l).length = if (lget k l).isSome = true then l.length - 1 else l.length := by
  induction l with
  | nil => simp [lcut, lget]
  | cons x r ih =>
    have hp := List.pairwise_cons.1 h
    have ih := ih hp.2
    unfold lcut at ih ⊢
    rw [List.filter_cons]
    by_cases e : x.1 = k
    · have hf : (r.filter fun y => !(y.1 == k)) = r := List.filter_eq_self.2 fun y hy => by
        have := hp.1 y hy
        simp only [Bool.not_eq_true', beq_eq_false_iff_ne, ne_eq]
        exact fun e2 => lt_ne this (by rw [e, e2])
      rw [if_neg (by simp [e]), hf, lget, if_pos e]
      simp
    · rw [if_pos (by simp [e]), List.length_cons, ih, lget, if_neg e]
      split
      · rename_i hs
        cases r with
        | nil => simp [lget] at hs
        | cons => simp
      · rfl
theorem lget_ext {l m : List KV} (hl : Rises l) (hm : Rises m) (h : ∀ k, lget k l = lget k m) : l = m := by
  have key : ∀ {l m : List KV}, Rises l → Rises m → (∀ k, lget k l = lget k m) → ∀ x, x ∈ l → x ∈ m := fun {l m} hl hm h x hx => by
    have := (lget_some hl).2 (show (x.1, x.2) ∈ l from hx)
    rw [h] at this
    exact (lget_some hm).1 this
  exact rises_ext hl hm fun x => ⟨key hl hm h x, key hm hl (fun k => (h k).symm) x⟩
namespace Tr
theorem set_get {k v kk : List UInt8} {t : Tr} (h : Rises t.row) : (t.set k v).get kk = if kk = k then some v else t.get kk := by
  have h2 : Rises (t.set k v).row := by rw [set_row _ _ _ h]; exact lset_rises h
  rw [get_row _ _ h2, get_row _ _ h, set_row _ _ _ h, lget_lset h]
theorem cut_get {k kk : List UInt8} {t : Tr} (h : Rises t.row) : (t.cut k).get kk = if kk = k then none else t.get kk := by
  have h2 : Rises (t.cut k).row := by rw [cut_row _ _ h]; exact lcut_rises h
  rw [get_row _ _ h2, get_row _ _ h, cut_row _ _ h, lget_lcut]
theorem set_size_eq {k v : List UInt8} {t : Tr} (h : Rises t.row) : (t.set k v).size = if (t.get k).isSome = true then t.size else t.size + 1 := by
  rw [← row_len, ← row_len, set_row _ _ _ h, lset_length h, get_row _ _ h]
theorem cut_size_eq {k : List UInt8} {t : Tr} (h : Rises t.row) : (t.cut k).size = if (t.get k).isSome = true then t.size - 1 else t.size := by
  rw [← row_len, ← row_len, cut_row _ _ h, lcut_length h, get_row _ _ h]
theorem set_rises {k v : List UInt8} {t : Tr} (h : Rises t.row) : Rises (t.set k v).row := by rw [set_row _ _ _ h]; exact lset_rises h
theorem cut_rises {k : List UInt8} {t : Tr} (h : Rises t.row) : Rises (t.cut k).row := by rw [cut_row _ _ h]; exact lcut_rises h
end Tr
end Go.Proofs.YtfnpelogfcnanaaGreatDoor

/- The law WalkReads: its contract. -/
import Derived.Test.YtjibchohkeljkaaDoorGo
import Derived.Test.YtjibchohkeljkaaDoorM10
-- @D
namespace Go.Proofs.YtjibchohkeljkaaDoor
set_option maxRecDepth 20000
open Go.Awp Tr
/-- Of what a spot is made the keys were read. -/
def Told (a : Sp) (ks : List (List UInt8)) : Prop := (a.m = [] ∨ entryK a.d a.m ∈ ks) ∧ (a.i = 0 ∨ keyH 73 a.i ∈ ks) ∧ (a.d = 0 ∨ keyH 73 a.d ∈ ks)
theorem Told.more {a : Sp} {ks : List (List UInt8)} (h : Told a ks) (ls : List (List UInt8)) : Told a (ks ++ ls) :=
  ⟨h.1.imp_right fun h => List.mem_append_left _ h, h.2.1.imp_right fun h => List.mem_append_left _ h, h.2.2.imp_right fun h => List.mem_append_left _ h⟩
theorem stepF_told {s : VS} {a : Sp} {ks : List (List UInt8)} (h : Told a ks) (h0 : a.i ≠ 0) (x : List UInt8) : Told (stepF s a x).1 (ks ++ (stepF s a x).2) := by
  have hd : keyH 73 a.i ∈ ks := h.2.1.resolve_left h0
  unfold stepF
  cases s.child a.i x with
  | none => exact ⟨.inr (List.mem_append_right _ (by simp)), .inl rfl, .inr (List.mem_append_left _ hd)⟩
  | some j =>
    dsimp only
    split
    · exact ⟨.inr (List.mem_append_right _ (by simp)), .inr (List.mem_append_right _ (by simp)), .inr (List.mem_append_left _ hd)⟩
    · exact ⟨.inr (List.mem_append_right _ (by simp)), .inl rfl, .inr (List.mem_append_left _ hd)⟩
theorem goF_told {s : VS} : ∀ (r : List (List UInt8)) (a : Sp) (ks : List (List UInt8)), Told a ks → keyH 73 1 ∈ ks → ((goF s r a ks).2.1 = 0 → Told (goF s r a ks).1 (goF s r a ks).2.2) ∧ keyH 73 1 ∈ (goF s r a ks).2.2 ∧ (goF s r a ks).2.1 ≠ 17 ∧ (goF s r a ks).2.1 ≠ 15
  | [], a, ks, h, h1 => ⟨fun _ => h, h1, by simp [goF], by simp [goF]⟩
  | x :: r, a, ks, h, h1 => by
    rw [goF_cons]
    split
    · exact ⟨fun e => (by cases e), h1, fun h => (by cases h), fun h => (by cases h)⟩
    rename_i h0
    split
    · exact ⟨fun e => (by cases e), h1, fun h => (by cases h), fun h => (by cases h)⟩
    exact goF_told r _ _ (stepF_told h h0 x) (List.mem_append_left _ h1)
theorem splitN_err (l : List UInt8) : (splitN l).2 = 0 ∨ (splitN l).2 = 17 ∨ (splitN l).2 = 15 := by
  unfold splitN
  split
  · exact .inr (.inl rfl)
  split
  · exact .inr (.inr rfl)
  split
  · exact .inl rfl
  split
  · exact .inl rfl
  · exact .inr (.inl rfl)
theorem find_told (s : VS) (l : List UInt8) : (((s.find l).2.1 = 17 ∨ (s.find l).2.1 = 15) ∧ (s.find l).2.2 = []) ∨
    ((s.find l).2.1 ≠ 17 ∧ (s.find l).2.1 ≠ 15 ∧ keyH 73 1 ∈ (s.find l).2.2 ∧ ((s.find l).2.1 = 0 → Told (s.find l).1 (s.find l).2.2)) := by
  unfold VS.find
  split
  · rename_i h
    exact .inl ⟨(splitN_err l).resolve_left h, rfl⟩
  · have := goF_told (s := s) (namesP l) (spR s) [keyH 73 1] ⟨.inl rfl, .inr (by simp [spR]), .inl rfl⟩ (by simp)
    exact .inr ⟨this.2.2.1, this.2.2.2, this.2.1, this.1⟩
theorem rds_get {ks : List (List UInt8)} : ∀ {t : Tr}, Rises t.row → ∀ k, ((ks.foldl (fun t k => t.set k []) t).get k).isSome = (decide (k ∈ ks) || (t.get k).isSome) := by
  induction ks with
  | nil => intro t h k; simp
  | cons x r ih =>
    intro t h k
    rw [List.foldl_cons, ih (set_rises h), set_get h]
    by_cases e : k = x
    · simp [e]
    · simp [e]
/-- A map with keys alone. -/
def rdM (l : List (List UInt8)) : List (List UInt8 × AV) := l.foldl (fun r k => mput k (.bool true) r) []
theorem rdM_fold (k : List UInt8) : ∀ (l : List (List UInt8)) (r : List (List UInt8 × AV)), mget k (l.foldl (fun r k => mput k (.bool true) r) r) = if k ∈ l then some (.bool true) else mget k r
  | [], r => by simp
  | x :: l, r => by
    rw [List.foldl_cons, rdM_fold k l, mget_mput]
    by_cases e : k ∈ l
    · simp [e]
    · by_cases e2 : k = x
      · simp [e2]
      · simp [e, e2]
theorem rdM_get (k : List UInt8) (l : List (List UInt8)) : (mget k (rdM l)).getD (.bool false) = .bool (decide (k ∈ l)) := by
  unfold rdM
  rw [rdM_fold]
  by_cases e : k ∈ l
  · simp [e]
  · simp [e]; rfl
theorem rdM_ok {l : List (List UInt8)} : ∀ r ∈ rdM l, plOk r.2 = true := by
  have key : ∀ (l : List (List UInt8)) (r : List (List UInt8 × AV)), (∀ x ∈ r, plOk x.2 = true) → ∀ x ∈ l.foldl (fun r k => mput k (.bool true) r) r, plOk x.2 = true := by
    intro l
    induction l with
    | nil => intro r h; exact h
    | cons y l ih =>
      intro r h
      refine ih _ fun x hx => ?_
      rcases mput_mem hx with rfl | hx
      · rfl
      · exact h x hx
  exact key l [] (by simp)
theorem rdM_take {l : List (List UInt8)} {i : Nat} {x : List UInt8} (hx : l[i]? = some x) : rdM (l.take (i + 1)) = mput x (.bool true) (rdM (l.take i)) := fold_take (fun r k => mput k (.bool true) r) [] hx
theorem doW_reads (s : VS) (o : WOp) : (s.doW o).reads = s.reads := by
  unfold VS.doW VS.save VS.put VS.del VS.set VS.cut
  repeat' split
  all_goals rfl
theorem opsW_reads (l : List WOp) : (opsW l).reads = .nil := by
  have key : ∀ (l : List WOp) (s : VS), (l.foldl VS.doW s).reads = s.reads := by
    intro l
    induction l with
    | nil => intro s; rfl
    | cons o t ih => intro s; rw [List.foldl_cons, ih, doW_reads]
  exact key l _
namespace walkReads
set_option maxHeartbeats 16000000 in
theorem con {a0 a1 : AV} (s0 : Shp tab 8 36 a0) (s1 : Shp tab 8 9 a1) : Con Tryd.prog 6 [.p a0, .p a1] [] (.p (.bool true)) [] [] := by
  obtain ⟨lo, hlo, hok, hlo2⟩ := wops_shp s0
  obtain ⟨p, rfl, hp⟩ := s1.str rfl
  by_cases hbad : 3000 < p.length
  · skip
    refine con_of Tryd.func6 rfl (by kernel_rfl) rfl fun F w0 β0 => ?_
    refine K_tell rfl ?_
    refine go ?_
    refine K_condT rfl (by simp; omega) ?_
    refine go ?_
    refine K_op rfl rfl (opr_callP rfl rfl (fixed17_spec) rfl rfl rfl rfl) rfl ?_
    refine go ?_
    exact J_done hT rfl rfl rfl
  obtain ⟨o', ho', c1⟩ := cut17_spec hlo hlo2
  obtain ⟨l40, lok⟩ := wops_cut hok
  generalize lo.take (cutG stop17 lo 0) = l at ho' l40 lok
  have hrd := ho'.rd
  have hlen : (l.map wopV).length = l.length := by simp
  have hall := ops17 l40 lok
  refine con_of Tryd.func6 rfl (by kernel_rfl) rfl fun F w0 β0 => ?_
  refine K_tell rfl ?_
  refine go ?_
  refine K_condF rfl (by simp; omega) ?_
  refine go ?_
  refine K_op rfl rfl (opr_callP rfl rfl (tnew_spec) rfl rfl rfl rfl) rfl ?_
  refine go ?_
  refine K_op rfl rfl (opr_callP rfl rfl (vnew_spec .nil) rfl rfl rfl rfl) rfl ?_
  refine go ?_
  refine J_le 6 (.ps []) rfl nils_ps ?_
  refine K_op rfl rfl (opr_callP rfl rfl (c1) rfl rfl rfl rfl) rfl ?_
  refine go ?_
  refine K_op rfl rfl (opr_len_rd hT rfl rfl (hrd _ _)) rfl ?_
  rw [hlen]
  refine go ?_
  refine J_loop (fun q : Ix l.length => [(1, .p (.str p)), (5, .ad (.l 0) 0), (6, .p (.ps (kvs (opsR (l.take q.i))))), (21, .p o'), (22, .p (.int .i64 (l.length : Int))), (23, .p (.int .i64 (q.i : Int)))]) (fun _ => []) (fun q => vN (opsW (l.take q.i))) (fun q => l.length - q.i) ⟨0, by omega⟩ ⟨rfl, rfl, rfl, rfl, rfl, rfl, trivial⟩ rfl rfl (fun q => ?_)
  have hi' := q.h
  refine go ?_
  have hvi := hall q.i
  by_cases h : q.i < l.length
  · have hx : l[q.i]? = some l[q.i] := List.getElem?_eq_getElem h
    have hxo := lok _ (List.getElem_mem h)
    generalize l[q.i] = x at hx hxo
    have hxk : (l.map wopV)[((q.i : Nat) : Int).toNat]? = some (wopV x) := by rw [Int.toNat_natCast, List.getElem?_map, hx]; rfl
    have e1 := opsW_take hx
    have e2 := opsR_take hx
    generalize opsW (l.take q.i) = s at hvi e1
    generalize opsR (l.take q.i) = r at hvi e2
    have hln := hvi.len
    have c2 := do17_spec hvi.v (by omega) hln.1 (by omega) x hxo.1
    rw [← e1, ← e2] at c2
    refine K_condT rfl (decide_eq_true (by omega)) ?_
    refine go ?_
    refine K_op rfl rfl (opr_index hT rfl rfl rfl rfl rfl (hrd _ _) (by omega) (by rw [hlen]; omega)) rfl ?_
    refine go ?_
    refine K_op rfl rfl (opr_load_el hT rfl rfl (hrd _ _) hxk rfl rfl) rfl ?_
    refine go ?_
    refine K_op rfl rfl (opr_callS [.l 0, .l 1] rfl rfl (c2) rfl rfl rfl ⟨⟨rfl, rfl⟩, ⟨rfl, rfl⟩, trivial⟩ rfl rfl rfl rfl) rfl ?_
    refine go ?_
    refine J_take 2 [(1, .p (.str p)), (5, .ad (.l 0) 0), (6, .p (.ps (kvs (opsR (l.take (q.i + 1)))))), (21, .p o'), (22, .p (.int .i64 (l.length : Int))), (23, .p (.int .i64 (IntKind.i64.wrap ((q.i : Int) + 1))))] ⟨rfl, rfl, rfl, rfl, rfl, rfl, trivial⟩ rfl rfl ?_
    refine J_again ⟨q.i + 1, by omega⟩ (by show l.length - (q.i + 1) < l.length - q.i; omega) ⟨rfl, rfl, rfl, rfl, rfl, congrArg (fun z => TV.p (.int .i64 z)) (by rw [IntWalk.i64_in _ (by omega)]; rfl), trivial⟩ rfl rfl
  have hrn := opsW_reads (l.take q.i)
  generalize opsW (l.take q.i) = s at hvi hrn
  generalize opsR (l.take q.i) = r at hvi
  have c2 := wfind_spec hvi.v (by omega) p
  have hfo := find_ok s p
  have hft := find_told s p
  generalize s.find p = fr at c2 hfo hft
  obtain ⟨a, e, ks⟩ := fr
  dsimp only at hfo hft c2
  have hvj := hvi.v.rds ks
  have hget : ∀ k, decide (k ∈ (s.rds ks).reads.row.map (·.1)) = decide (k ∈ ks) := fun k => by
    have h1 := rds_get (ks := ks) (t := s.reads) (by rw [hrn]; simp [row, Rises]) k
    rw [hrn] at h1
    have h2 : (s.rds ks).reads = ks.foldl (fun t k => t.set k []) .nil := by unfold VS.rds; rw [hrn]
    have h3 := get_row k _ hvj.rr
    rw [← h2] at h1
    rw [decide_eq_decide]
    simp only [Tr.get, Option.isSome_none, Bool.or_false] at h1
    rw [h3] at h1
    constructor
    · intro h
      obtain ⟨y, hy, rfl⟩ := List.mem_map.1 h
      have := (lget_some hvj.rr (k := y.1) (v := y.2)).2 hy
      rw [this] at h1
      simpa using h1.symm
    · intro h
      rw [decide_eq_true h, Option.isSome_iff_exists] at h1
      obtain ⟨v, hv⟩ := h1
      exact List.mem_map.2 ⟨(k, v), (lget_some hvj.rr).1 hv, rfl⟩
  have hempty : ks = [] → (s.rds ks).reads.row = [] := fun e => by subst e; show s.reads.row = []; rw [hrn]; rfl
  have c3 := vreads_spec (s.rds ks) (by have := hvj.zr; unfold big40; omega)
  generalize hs' : s.rds ks = s' at c2 c3 hvj hget hempty
  have hrl := row_len s'.reads
  have hrz := hvj.zr
  have hkv : ksV s'.reads.row = (s'.reads.row.map (·.1)).map .str := by unfold ksV; rw [List.map_map]; rfl
  have c3 := Con.freeze c3 (by rw [hkv]; simp [hrl])
  rw [hkv] at c3
  generalize hR : s'.reads.row.map (·.1) = R at c3 hget
  have hRl : R.length ≤ 100 := by rw [← hR, List.length_map, hrl]; omega
  have hlR : (R.map AV.str).length = R.length := by simp
  refine K_condF rfl (decide_eq_false (by omega)) ?_
  refine go ?_
  refine K_op rfl rfl (opr_callS [.l 0, .l 1] rfl rfl (c2) rfl rfl rfl ⟨⟨rfl, rfl⟩, ⟨rfl, rfl⟩, trivial⟩ rfl rfl rfl rfl) rfl ?_
  refine go ?_
  refine K_op rfl rfl (opr_makeMap .str rfl) rfl ?_
  refine go ?_
  refine K_op rfl rfl (opr_callS [.l 0, .l 1] rfl rfl (c3) rfl rfl rfl ⟨⟨rfl, rfl⟩, ⟨rfl, rfl⟩, trivial⟩ rfl rfl rfl rfl) rfl ?_
  refine go ?_
  refine J_loop (fun q : Ix R.length => [(9, .ad (.l 2) 0), (10, .p (.int .i64 e)), (11, .ad (.l 3) 0), (40, .p (.ps (R.map .str))), (41, .p (.int .i64 (R.length : Int))), (42, .p (.int .i64 (q.i : Int)))]) (fun _ => []) (fun q => vN s' ++ [spB a, mpO .str (rdM (R.take q.i))]) (fun q => R.length - q.i) ⟨0, by omega⟩ ⟨rfl, rfl, rfl, rfl, (by rw [← hlR]; rfl), rfl, trivial⟩ rfl rfl (fun q => ?_)
  have hi' := q.h
  refine go ?_
  by_cases h : q.i < R.length
  · have hx : R[q.i]? = some R[q.i] := List.getElem?_eq_getElem h
    generalize R[q.i] = x at hx
    have hxk : (R.map AV.str)[((q.i : Nat) : Int).toNat]? = some (.str x) := by rw [Int.toNat_natCast, List.getElem?_map, hx]; rfl
    refine K_condT rfl (decide_eq_true (by omega)) ?_
    refine go ?_
    refine K_op rfl rfl (opr_index hT rfl rfl rfl rfl rfl (.ps _) (by omega) (by rw [hlR]; omega)) rfl ?_
    refine go ?_
    refine K_op rfl rfl (opr_load_el hT rfl rfl (.ps _) hxk rfl rfl) rfl ?_
    refine go ?_
    refine K_op rfl rfl (opr_mapUpdate (strKey (kt := 9) (by kernel_rfl)) (e := 4) rfl (by kernel_rfl) rfl rfl rfl rfl rfl) rfl ?_
    refine go ?_
    refine J_again ⟨q.i + 1, by omega⟩ (by show R.length - (q.i + 1) < R.length - q.i; omega) ⟨rfl, rfl, rfl, rfl, rfl, congrArg (fun z => TV.p (.int .i64 z)) (by rw [IntWalk.i64_in _ (by omega)]; rfl), trivial⟩ rfl (by dsimp only; rw [rdM_take hx]; rfl)
  have eR : R.take q.i = R := List.take_of_length_le (by omega)
  rw [eR]
  refine K_condF rfl (decide_eq_false (by omega)) ?_
  refine go ?_
  have c9 := rinode_spec 1 (by decide) []
  rcases hft with ⟨he, hks⟩ | ⟨he1, he2, hk1, hto⟩
  · obtain rfl : R = [] := by rw [← hR, hempty hks]; rfl
    refine K_condT rfl (by rcases he with h | h <;> simp [h]) ?_
    refine go ?_
    refine K_op rfl rfl (opr_callP rfl rfl (fixed17_spec) rfl rfl rfl rfl) rfl ?_
    refine go ?_
    refine K_yes rfl rfl rfl (opr_lenMap (κ := List UInt8) (ka := .str) (kt := 9) (e := 4) rfl (by kernel_rfl) rfl (fun _ => rfl)) rfl ?_
    refine go ?_
    exact J_done hT rfl rfl rfl
  refine K_condF rfl (by simp [he1, he2]) ?_
  refine go ?_
  by_cases he0 : e = 0
  · subst he0
    obtain ⟨t1, t2, t3⟩ := hto rfl
    refine go ?_
    refine K_op rfl rfl (opr_callP rfl rfl (fixed17_spec) rfl rfl rfl rfl) rfl ?_
    refine go ?_
    refine K_yes rfl rfl rfl (opr_callP rfl rfl (c9) rfl rfl rfl rfl) rfl ?_
    refine go ?_
    refine K_yes rfl rfl rfl (opr_lookup (strKey (kt := 9) (by kernel_rfl)) (e := 4) (x0 := .bool false) rfl (by kernel_rfl) (by kernel_rfl) rfl rfl (fun _ => rfl) rfl rdM_ok) rfl ?_
    refine J_val 73 (.p (.bool true)) rfl (congrArg TV.p (by rw [rdM_get, hget]; exact congrArg AV.bool (decide_eq_true hk1))) ?_
    refine go ?_
    refine K_opt rfl rfl rfl need2 (fun _ => opr_callP rfl rfl (rentry_spec a.d a.m hfo.1.1 []) rfl rfl rfl rfl) rfl ?_
    refine go ?_
    refine K_opt rfl rfl rfl need2 (fun _ => opr_lookup (strKey (kt := 9) (by kernel_rfl)) (e := 4) (x0 := .bool false) rfl (by kernel_rfl) (by kernel_rfl) rfl rfl (fun _ => rfl) rfl rdM_ok) rfl ?_
    refine J_val 86 _ rfl (congrArg (TV.opt _) (congrArg TV.p (by rw [rdM_get, hget]))) ?_
    refine g1 ?_
    refine J_val 87 (.p (.bool true)) rfl (congrArg (fun b => TV.p (.bool b)) (by rcases t1 with h | h <;> simp [h])) ?_
    refine go ?_
    refine K_opt rfl rfl rfl need1 (fun _ => opr_callP rfl rfl (rinode_spec a.i hfo.1.2.1 []) rfl rfl rfl rfl) rfl ?_
    refine go ?_
    refine K_opt rfl rfl rfl need2 (fun _ => opr_lookup (strKey (kt := 9) (by kernel_rfl)) (e := 4) (x0 := .bool false) rfl (by kernel_rfl) (by kernel_rfl) rfl rfl (fun _ => rfl) rfl rdM_ok) rfl ?_
    refine J_val 98 _ rfl (congrArg (TV.opt _) (congrArg TV.p (by rw [rdM_get, hget]))) ?_
    refine g1 ?_
    refine J_val 99 (.p (.bool true)) rfl (congrArg (fun b => TV.p (.bool b)) (by rcases t2 with h | h <;> simp [h])) ?_
    refine go ?_
    refine K_opt rfl rfl rfl need1 (fun _ => opr_callP rfl rfl (rinode_spec a.d hfo.1.1 []) rfl rfl rfl rfl) rfl ?_
    refine go ?_
    refine K_opt rfl rfl rfl need2 (fun _ => opr_lookup (strKey (kt := 9) (by kernel_rfl)) (e := 4) (x0 := .bool false) rfl (by kernel_rfl) (by kernel_rfl) rfl rfl (fun _ => rfl) rfl rdM_ok) rfl ?_
    refine J_val 110 _ rfl (congrArg (TV.opt _) (congrArg TV.p (by rw [rdM_get, hget]))) ?_
    refine g1 ?_
    refine J_val 111 (.p (.bool true)) rfl (congrArg (fun b => TV.p (.bool b)) (by rcases t3 with h | h <;> simp [h])) ?_
    refine go ?_
    exact J_done hT rfl rfl rfl
  · refine K_condT rfl (by simp [he0]) ?_
    refine go ?_
    refine K_op rfl rfl (opr_callP rfl rfl (fixed17_spec) rfl rfl rfl rfl) rfl ?_
    refine go ?_
    refine K_yes rfl rfl rfl (opr_callP rfl rfl (c9) rfl rfl rfl rfl) rfl ?_
    refine go ?_
    refine K_yes rfl rfl rfl (opr_lookup (strKey (kt := 9) (by kernel_rfl)) (e := 4) (x0 := .bool false) rfl (by kernel_rfl) (by kernel_rfl) rfl rfl (fun _ => rfl) rfl rdM_ok) rfl ?_
    refine J_val 67 (.p (.bool true)) rfl (congrArg TV.p (by rw [rdM_get, hget]; exact congrArg AV.bool (decide_eq_true hk1))) ?_
    refine go ?_
    exact J_done hT rfl rfl rfl
end walkReads
end Go.Proofs.YtjibchohkeljkaaDoor

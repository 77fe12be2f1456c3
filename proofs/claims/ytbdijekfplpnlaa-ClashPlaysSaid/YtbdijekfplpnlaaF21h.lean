/- clash: the laws' histories: shapes; nil; great, looked. -/
import Derived.Test.YtbdijekfplpnlaaGo
import Derived.Test.YtbdijekfplpnlaaF21g
-- @D
namespace Go.Proofs.Ytbdijekfplpnlaa
set_option maxRecDepth 20000
open Go.Awp Tr
/-- 'shp_agg' at any depth. -/
theorem shp_aggF {f : Nat} {α : Type} (mk : α → AV) (ok : α → Prop) {t e : Nat} {te : TyI} {ls : List Nat} {a : AV} (h : Shp tab (f + 1) t a) (ht : tyD tab t = .slice e) (hte : tlk tab e = some te) (hls : leaves tab f e = some ls) (hag : isAggD te.d = some true) (hb : 0 < te.bytes)
    (hrow : ∀ cs, All2 (Shp tab f) ls cs → ∃ x, AV.agg cs = mk x ∧ ok x) : ∃ l, Sl mk a l ∧ (∀ x ∈ l, ok x) ∧ l.length ≤ 140737488355328 := by
  rcases h.slice ht with rfl | ⟨rows, te', ls', rfl, hte', hls', hlen, hrows⟩
  · exact ⟨[], .nils, by simp, by simp⟩
  · rw [hte] at hte'
    obtain rfl := Option.some.inj hte'
    rw [hls] at hls'
    obtain rfl := Option.some.inj hls'
    have key : ∀ rows : List AV, (∀ r ∈ rows, All2 (Shp tab f) ls (cellsOf r) ∧ (∀ y, isAggD te.d = some false → cellsOf r = [y] → r = y) ∧ (isAggD te.d = some true → ∃ cs, r = .agg cs)) → ∃ l : List α, rows = l.map mk ∧ ∀ x ∈ l, ok x := by
      intro rows
      induction rows with
      | nil => intro _; exact ⟨[], rfl, by simp⟩
      | cons r rs ih =>
        intro hr
        obtain ⟨l, hl, hok⟩ := ih fun r' h' => hr r' (by simp [h'])
        obtain ⟨h1, _, h2⟩ := hr r (by simp)
        obtain ⟨cs, rfl⟩ := h2 hag
        obtain ⟨x, hx, hxo⟩ := hrow cs h1
        refine ⟨x :: l, by rw [hl, hx]; rfl, fun o ho => ?_⟩
        rcases List.mem_cons.1 ho with rfl | ho
        · exact hxo
        · exact hok o ho
    obtain ⟨l, rfl, hok⟩ := key rows hrows
    refine ⟨l, .ps l, hok, ?_⟩
    unfold Go.Awp.reach at hlen
    have := Nat.le_mul_of_pos_right (l.map mk).length hb
    simp only [List.length_map] at hlen this
    omega
theorem pws_shpF {f : Nat} {a : AV} (h : Shp tab (f + 1 + 1) 37 a) (hf : leaves tab (f + 1) 99 = some [9, 9, 4]) : ∃ l : List PW, Sl pwV a l ∧ l.length ≤ 140737488355328 :=
  let ⟨l, h1, _, h2⟩ := shp_aggF pwV (fun _ => True) h rfl rfl hf rfl (by decide) fun cs hc => by
    obtain ⟨x, y, z, rfl, hx, hy, hz⟩ := all2_3 hc
    obtain ⟨k, rfl, hk⟩ := hx.str rfl
    obtain ⟨v, rfl, hv⟩ := hy.str rfl
    obtain ⟨b, rfl⟩ := hz.bool rfl
    exact ⟨(k, v, b), rfl, trivial⟩
  ⟨l, h1, h2⟩
/-- An operation on a history. -/
structure HOp where
  kind : Int
  l : List PW
  n : Nat
def hopV (o : HOp) : AV := .agg [.int .i64 o.kind, prow o.l, .int .u64 (o.n : Int)]
theorem sl_ps {α : Type} {mk : α → AV} {a : AV} {l : List α} (h : Sl mk a l) : AVLe a (.ps (l.map mk)) := by
  cases h with
  | nils => exact nils_ps
  | ps => exact fun _ _ _ h => h
theorem avle_map {α : Type} (f g : α → AV) (l : List α) (h : ∀ x ∈ l, ∃ cs ds, f x = .agg cs ∧ g x = .agg ds ∧ cs.length = ds.length ∧ ∀ (j : Nat) (c d : AV), cs[j]? = some c → ds[j]? = some d → AVLe c d) : AVLe (.ps (l.map f)) (.ps (l.map g)) := by
  intro w N v hr
  generalize hq : l.map f = rows at hr
  cases hr with
  | psE ao c =>
    have : l = [] := List.map_eq_nil_iff.1 hq
    subst this
    exact .psE ..
  | ps _ a c e vs hN hb he hc hrr hl =>
    subst hq
    have e1 : (l.map f).length = (l.map g).length := by simp
    rw [e1] at hl hc ⊢
    refine .ps (l.map g) a c e vs hN hb (fun r hr => ?_) hc (fun i j r x hi hx => ?_) hl
    · obtain ⟨y, hy, rfl⟩ := List.mem_map.1 hr
      obtain ⟨cs, ds, h1, h2, h3, _⟩ := h y hy
      have := he (f y) (List.mem_map.2 ⟨y, hy, rfl⟩)
      rw [h1] at this
      rw [h2]
      simp only [cellsOf] at this ⊢
      omega
    · rw [List.getElem?_map] at hi
      cases hy : l[i]? with
      | none => rw [hy] at hi; cases hi
      | some y =>
        rw [hy] at hi
        obtain rfl : g y = r := Option.some.inj hi
        obtain ⟨cs, ds, h1, h2, h3, h4⟩ := h y (List.mem_of_getElem? hy)
        rw [h2] at hx
        simp only [cellsOf] at hx
        have hj : j < cs.length := by rw [h3]; exact (List.getElem?_eq_some_iff.1 hx).1
        exact h4 j _ _ (List.getElem?_eq_getElem hj) hx _ _ _ (hrr i j (f y) _ (by rw [List.getElem?_map, hy]; rfl) (by rw [h1]; exact List.getElem?_eq_getElem hj))
theorem hops_shp {a : AV} (h : Shp tab 8 81 a) : ∃ l : List HOp, AVLe a (.ps (l.map hopV)) ∧ (∀ o ∈ l, o.l.length ≤ 140737488355328 ∧ o.n ≤ 18446744073709551615) ∧ l.length ≤ 140737488355328 := by
  obtain ⟨l, h1, h2, h3⟩ := shp_agg (fun o : AV × HOp => .agg [.int .i64 o.2.kind, o.1, .int .u64 (o.2.n : Int)]) (fun o => AVLe o.1 (prow o.2.l) ∧ o.2.l.length ≤ 140737488355328 ∧ o.2.n ≤ 18446744073709551615) h rfl rfl rfl rfl (by decide) fun cs hc => by
    obtain ⟨x, y, z, rfl, hx, hy, hz⟩ := all2_3 hc
    obtain ⟨k, rfl, hk⟩ := hx.int rfl
    obtain ⟨l, hl, hl2⟩ := pws_shpF hy rfl
    obtain ⟨n, rfl, hn⟩ := hz.int rfl
    change 0 ≤ n ∧ n ≤ 18446744073709551615 at hn
    obtain ⟨m, rfl⟩ : ∃ m : Nat, n = (m : Int) := ⟨n.toNat, by omega⟩
    exact ⟨(y, ⟨k, l, m⟩), rfl, sl_ps hl, hl2, (by omega : m ≤ 18446744073709551615)⟩
  refine ⟨l.map (·.2), ?_, fun o ho => ?_, by simpa using h3⟩
  · rw [List.map_map]
    have : AVLe a (.ps (l.map fun o : AV × HOp => .agg [.int .i64 o.2.kind, o.1, .int .u64 (o.2.n : Int)])) := sl_ps h1
    refine fun w N v hr => avle_map (fun o : AV × HOp => .agg [.int .i64 o.2.kind, o.1, .int .u64 (o.2.n : Int)]) (fun o : AV × HOp => hopV o.2) l (fun x hx => ⟨_, _, rfl, rfl, rfl, fun j c d hc hd => ?_⟩) w N v (this w N v hr)
    match j with
    | 0 => obtain rfl : c = d := by simp at hc hd; rw [← hc, ← hd]
           exact fun _ _ _ h => h
    | 1 => obtain rfl : x.1 = c := by simpa using hc
           obtain rfl : prow x.2.l = d := by simpa using hd
           exact (h2 x hx).1
    | 2 => obtain rfl : c = d := by simp at hc hd; rw [← hc, ← hd]
           exact fun _ _ _ h => h
    | j + 3 => simp at hc
  · obtain ⟨x, hx, rfl⟩ := List.mem_map.1 ho
    exact (h2 x hx).2
theorem Con.arg1 {P : Program} {f : FuncId} {rest : List TV} {H H' news : List AObj} {r : TV} {x y : AV} (h : Con P f (.p y :: rest) H r H' news) (hxy : AVLe x y) : Con P f (.p x :: rest) H r H' news :=
  ⟨h.can, fun F w β vs hS hr => h.run F w β vs hS ⟨hr.1, fun i z v hz hv => by
    cases i with
    | zero =>
      obtain rfl : TV.p y = z := by simpa using hz
      have := hr.2 0 (.p x) v rfl hv
      cases this with | p q => exact .p (hxy _ _ _ q)
    | succ i => exact hr.2 (i + 1) z v hz hv⟩⟩
theorem avle_p {x y : AV} (h : AVLe x y) (w : World) (β : Hd → Nat) (G : Hp) (v : Value) (hr : RepT w β G (.p x) v) : RepT w β G (.p y) v := by
  cases hr with | p hr => exact .p (h _ _ _ hr)
/-- Appended to an empty slice: an array of one's own, be it without an element. -/
theorem opr_app_lz {P : Program} {T : Tab} {env : Env} {H L : List AObj} {o : Oper} {t tx : TypeId} {y z : Operand} {e : Nat} {te : TyI} {b : Bool} {rows : List AV} {s : TV} {d : AV} (hT : TabOk P T) (ho : o.op = .call { callee := .builtin .append, args := #[y, z], argTypes := #[t, tx] })
    (ht : appT T t tx = some (e, te, b)) (hd : d = .nils ∨ d = .cz) (hy : evA env y = .p d) (hz : evA env z = s) (hs : SrcA H L s rows) (hbs : b = true ↔ ∃ l, s = .p (.str l)) (hc : clR rows) (he : ∀ r ∈ rows, (cellsOf r).length = te.size) (hpos : 0 < te.size) (hb0 : 0 < te.bytes)
    (hfit : rows.length * te.bytes ≤ 140737488355328) : OpR P o env H L (.sl (.l L.length) rows.length 0 rows.length) H (L ++ [.arr e true te.size rows]) := by
  cases rows with
  | nil =>
    have := opr_app_nothing (P := P) (env := env) hT ho ht hd hy hz hs hbs
    intro F w β a next Q hS hE hn
    exact this F w β a next Q hS hE fun w' β' u s1 s2 s3 => by
      obtain ⟨k1, k2⟩ := sim_lazy e hpos s1
      exact hn w' β' u k1 (s2.trans k2) (rep_lazy e te.size hd s3)
  | cons r rs =>
    exact opr_app_new hT ho ht (by rcases hd with rfl | rfl; exact .inl hy; exact .inr hy) hz hs hbs hc he hpos hb0 (by simp) hfit
/-! ### Without a history -/
theorem nnow_spec : Con Try.prog 57 [.p .nilp] [] (.p (.int .u64 0)) [] [] := by
  refine con_of Try.func57 rfl (by kernel_rfl) rfl fun F w0 β0 => ?_
  refine K_tell rfl ?_
  refine go ?_
  exact J_done hT rfl rfl rfl
theorem nlen_spec : Con Try.prog 58 [.p .nilp] [] (.p (.int .i64 0)) [] [] := by
  refine con_of Try.func58 rfl (by kernel_rfl) rfl fun F w0 β0 => ?_
  refine K_tell rfl ?_
  refine go ?_
  exact J_done hT rfl rfl rfl
theorem nadd_spec : Con Try.prog 54 [.p .nilp, .p .nils] [] (.p (.int .u64 0)) [] [] := by
  refine con_of Try.func54 rfl (by kernel_rfl) rfl fun F w0 β0 => ?_
  refine K_tell rfl ?_
  refine go ?_
  exact J_done hT rfl rfl rfl
theorem nforget_spec : Con Try.prog 55 [.p .nilp, .p (.int .u64 3)] [] (.tup []) [] [] := by
  refine con_of Try.func55 rfl (by kernel_rfl) rfl fun F w0 β0 => ?_
  refine K_tell rfl ?_
  refine go ?_
  refine K_op rfl rfl (opr_callP rfl rfl (nnow_spec) rfl rfl rfl rfl) rfl ?_
  refine go ?_
  exact J_done hT rfl rfl rfl
theorem nclash_spec (s : VS) : Con Try.prog 56 [.p .nilp, .p (.int .u64 0), .ad (.o 0) 0] (vH s) (.tup [.p (.bool false), .p (.bool true)]) (vH s) [] := by
  refine con_of Try.func56 rfl (by kernel_rfl) rfl fun F w0 β0 => ?_
  refine K_tell rfl ?_
  refine go ?_
  refine K_op rfl rfl (opr_callP rfl rfl (nnow_spec) rfl rfl rfl rfl) rfl ?_
  refine go ?_
  exact J_done hT rfl rfl rfl
/-! ### flintlaw21 -/
def weigh (l : List HOp) : Nat := (l.map fun o => o.l.length + 1).sum
theorem weigh_take {l : List HOp} {i : Nat} {x : HOp} (hx : l[i]? = some x) : weigh (l.take (i + 1)) = weigh (l.take i) + (x.l.length + 1) := by
  unfold weigh
  rw [List.take_add_one, hx]
  simp
theorem weigh_le (l : List HOp) (i : Nat) : weigh (l.take i) ≤ weigh l := by
  unfold weigh
  have := List.take_append_drop i l
  conv => rhs; rw [← this, List.map_append, List.sum_append]
  omega
structure Ws (l : List HOp) where
  i : Nat
  h : i ≤ l.length
  w : weigh (l.take i) ≤ 300
set_option maxHeartbeats 4000000 in
theorem great_spec {s : AV} {l : List HOp} (hs : Sl hopV s l) (hl : l.length ≤ 140737488355328) (hok : ∀ o ∈ l, o.l.length ≤ 140737488355328 ∧ o.n ≤ 18446744073709551615) : Con Try.prog 51 [.p s] [] (.p (.bool (decide (300 < weigh l)))) [] [] := by
  have hlen : (l.map hopV).length = l.length := by simp
  have hrd := hs.rd []
  refine con_of Try.func51 rfl (by kernel_rfl) rfl fun F w0 β0 => ?_
  refine K_tell rfl ?_
  refine go ?_
  refine K_op rfl rfl (opr_len_rd hT rfl rfl (hrd _)) rfl ?_
  rw [hlen]
  refine go ?_
  refine J_loop (fun q : Ws l => [(0, .p s), (3, .p (.int .i64 (weigh (l.take q.i) : Int))), (6, .p s), (7, .p (.int .i64 (l.length : Int))), (8, .p (.int .i64 (q.i : Int)))]) (fun _ => []) (fun _ => []) (fun q => l.length - q.i) ⟨0, by omega, by simp [weigh]⟩ ⟨rfl, rfl, rfl, rfl, rfl, trivial⟩ rfl rfl (fun q => ?_)
  have hi := q.h
  have hw := q.w
  refine go ?_
  by_cases h : q.i < l.length
  · have hx : l[q.i]? = some l[q.i] := List.getElem?_eq_getElem h
    obtain ⟨ho2, _⟩ := hok _ (List.getElem_mem h)
    generalize l[q.i] = x at hx ho2
    have hxk := map_get hopV hx
    have hwt := weigh_take hx
    have hwl := weigh_le l (q.i + 1)
    have hpl : (x.l.map pwV).length = x.l.length := by simp
    refine K_condT rfl (decide_eq_true (by omega)) ?_
    refine go ?_
    refine K_op rfl rfl (opr_index hT rfl rfl rfl rfl rfl (hrd _) (by omega) (by rw [hlen]; omega)) rfl ?_
    refine go ?_
    refine K_op rfl rfl (opr_load_el hT rfl rfl (hrd _) hxk rfl rfl) rfl ?_
    refine go ?_
    rw [hpl]
    rw [show IntKind.i64.wrap ((weigh (l.take q.i) : Int) + IntKind.i64.wrap ((x.l.length : Int) + 1)) = ((weigh (l.take (q.i + 1)) : Nat) : Int) by rw [IntWalk.i64_in ((x.l.length : Int) + 1) (by omega), IntWalk.i64_in _ (by omega), hwt]; omega]
    by_cases hk : 300 < weigh (l.take (q.i + 1))
    · refine K_condT rfl (decide_eq_true (by omega)) ?_
      refine go ?_
      rw [show decide (300 < weigh l) = true from decide_eq_true (by omega)]
      exact J_done hT rfl rfl rfl
    · refine K_condF rfl (decide_eq_false (by omega)) ?_
      refine go ?_
      refine J_take 0 [(0, .p s), (3, .p (.int .i64 (weigh (l.take (q.i + 1)) : Int))), (6, .p s), (7, .p (.int .i64 (l.length : Int))), (8, .p (.int .i64 (IntKind.i64.wrap ((q.i : Int) + 1))))] ⟨rfl, rfl, rfl, rfl, rfl, trivial⟩ rfl rfl ?_
      refine J_again ⟨q.i + 1, by omega, by omega⟩ (by show l.length - (q.i + 1) < l.length - q.i; omega) ⟨rfl, rfl, rfl, rfl, congrArg (fun z => TV.p (.int .i64 z)) (by rw [IntWalk.i64_in _ (by omega)]; rfl), trivial⟩ rfl rfl
  refine K_condF rfl (decide_eq_false (by omega)) ?_
  refine go ?_
  have : weigh l ≤ 300 := by
    rw [show q.i = l.length by omega, List.take_length] at hw
    exact hw
  rw [show decide (300 < weigh l) = false from decide_eq_false (by omega)]
  exact J_done hT rfl rfl rfl
/-- Looked at a key. -/
def VS.look (s : VS) (k : List UInt8) : VS := { s with reads := s.reads.set k [] }
structure VLk (n : Nat) where
  i : Nat
  s : VS
  h : i ≤ n
  z : s.reads.size ≤ i ∧ s.ranges = [] ∧ s.shown = .nil
structure VLr (n : Nat) where
  i : Nat
  s : VS
  h : i ≤ n
  z : s.reads.size ≤ 100 ∧ s.ranges.length ≤ i ∧ s.shown = .nil
theorem range_z (s : VS) (a b : List UInt8) : (s.range a b).reads = s.reads ∧ (s.range a b).ranges.length ≤ s.ranges.length + 1 ∧ (s.range a b).shown = s.shown := by
  unfold VS.range
  split
  · refine ⟨rfl, ?_, rfl⟩
    dsimp only
    split
    · omega
    · simp
  · exact ⟨rfl, by omega, rfl⟩
set_option maxHeartbeats 4000000 in
theorem looked_spec {a b : AV} {l : List (List UInt8)} {g : List Rg} (ha : Sl .str a l) (hb : Sl rgV b g) (la : l.length ≤ 100) (lb : g.length ≤ 100) : ∃ s : VS, s.reads.size ≤ 100 ∧ s.ranges.length ≤ 100 ∧ Con Try.prog 53 [.p a, .p b] [] (.ad (.l 0) 0) [] (vN s) := by
  have n1 : (l.map AV.str).length = l.length := by simp
  have n2 : (g.map rgV).length = g.length := by simp
  have k1 : ∀ i, i ≤ l.length → ((l.take i).foldl VS.look (VS.new .nil)).reads.size ≤ i ∧ ((l.take i).foldl VS.look (VS.new .nil)).ranges = [] ∧ ((l.take i).foldl VS.look (VS.new .nil)).shown = .nil := by
    intro i
    induction i with
    | zero => intro _; simp [VS.new, Tr.size]
    | succ i ih =>
      intro hi
      have hx : l[i]? = some (l[i]'(by omega)) := List.getElem?_eq_getElem _
      generalize l[i]'(by omega) = x at hx
      obtain ⟨h1, h2, h3⟩ := ih (by omega)
      rw [fold_take VS.look _ hx]
      generalize (l.take i).foldl VS.look (VS.new .nil) = s at h1 h2 h3
      have := set_size x [] s.reads
      exact ⟨by show (s.reads.set x []).size ≤ _; omega, h2, h3⟩
  have k2 : ∀ s : VS, s.reads.size ≤ 100 → s.ranges = [] → s.shown = .nil → ∀ i, i ≤ g.length → ((g.take i).foldl (fun s r => s.range r.1 r.2) s).reads.size ≤ 100 ∧ ((g.take i).foldl (fun s r => s.range r.1 r.2) s).ranges.length ≤ i ∧ ((g.take i).foldl (fun s r => s.range r.1 r.2) s).shown = .nil := by
    intro s h1 h2 h3 i
    induction i with
    | zero => intro _; simp [h1, h2, h3]
    | succ i ih =>
      intro hi
      have hx : g[i]? = some (g[i]'(by omega)) := List.getElem?_eq_getElem _
      generalize g[i]'(by omega) = x at hx
      obtain ⟨h1, h2, h3⟩ := ih (by omega)
      rw [fold_take (fun s r => VS.range s r.1 r.2) _ hx]
      generalize (g.take i).foldl (fun s r => VS.range s r.1 r.2) s = s at h1 h2 h3
      obtain ⟨u1, u2, u3⟩ := range_z s x.1 x.2
      exact ⟨by rw [u1]; exact h1, by omega, by rw [u3]; exact h3⟩
  obtain ⟨e1, e2, e3⟩ := k1 l.length (Nat.le_refl _)
  obtain ⟨f1, f2, f3⟩ := k2 _ (Nat.le_trans e1 la) e2 e3 g.length (Nat.le_refl _)
  refine ⟨_, f1, Nat.le_trans f2 lb, ?_⟩
  refine con_of Try.func53 rfl (by kernel_rfl) rfl fun F w0 β0 => ?_
  refine K_tell rfl ?_
  refine go ?_
  refine K_op rfl rfl (opr_callP rfl rfl (tnew_spec) rfl rfl rfl rfl) rfl ?_
  refine go ?_
  refine K_op rfl rfl (opr_callP rfl rfl (vnew_spec .nil) rfl rfl rfl rfl) rfl ?_
  refine go ?_
  refine K_op rfl rfl (opr_len_rd hT rfl rfl (ha.rd _ _)) rfl ?_
  rw [n1]
  refine go ?_
  refine J_loop (fun q : Ix l.length => [(1, .p b), (5, .ad (.l 0) 0), (12, .p a), (13, .p (.int .i64 (l.length : Int))), (14, .p (.int .i64 (q.i : Int)))]) (fun _ => []) (fun q => vN ((l.take q.i).foldl VS.look (VS.new .nil))) (fun q => l.length - q.i) ⟨0, by omega⟩ ⟨rfl, rfl, rfl, rfl, rfl, trivial⟩ rfl rfl (fun q => ?_)
  have hi := q.h
  obtain ⟨z1, z2, z3⟩ := k1 q.i hi
  refine go ?_
  by_cases h : q.i < l.length
  · have hx : l[q.i]? = some l[q.i] := List.getElem?_eq_getElem h
    generalize l[q.i] = x at hx
    have hxk := map_get AV.str hx
    have hft := fold_take VS.look (VS.new .nil) hx
    generalize (l.take q.i).foldl VS.look (VS.new .nil) = s at hft z1 z2 z3
    have c2 := vget_spec s x (by unfold big40; omega)
    rw [show ({ s with reads := s.reads.set x [] } : VS) = s.look x from rfl, ← hft, getT_tup] at c2
    generalize hs' : (l.take (q.i + 1)).foldl VS.look (VS.new .nil) = s' at c2
    refine K_condT rfl (decide_eq_true (by omega)) ?_
    refine go ?_
    refine K_op rfl rfl (opr_index hT rfl rfl rfl rfl rfl (ha.rd _ _) (by omega) (by rw [n1]; omega)) rfl ?_
    refine go ?_
    refine K_op rfl rfl (opr_load_el hT rfl rfl (ha.rd _ _) hxk rfl rfl) rfl ?_
    refine go ?_
    refine K_op rfl rfl (opr_callS [.l 0, .l 1] rfl rfl (c2) rfl rfl rfl ⟨⟨rfl, rfl⟩, ⟨rfl, rfl⟩, trivial⟩ rfl rfl rfl rfl) rfl ?_
    refine go ?_
    refine J_again ⟨q.i + 1, by omega⟩ (by show l.length - (q.i + 1) < l.length - q.i; omega) ⟨rfl, rfl, rfl, rfl, congrArg (fun z => TV.p (.int .i64 z)) (by rw [IntWalk.i64_in _ (by omega)]; rfl), trivial⟩ rfl (by dsimp only; rw [hs'])
  refine K_condF rfl (decide_eq_false (by omega)) ?_
  rw [show q.i = l.length by omega]
  have k3 := k2 _ (Nat.le_trans e1 la) e2 e3
  clear k1 k2 z1 z2 z3 f1 f2 f3
  generalize (l.take l.length).foldl VS.look (VS.new .nil) = s at k3 e1 e2 e3
  refine go ?_
  refine K_op rfl rfl (opr_len_rd hT rfl rfl (hb.rd _ _)) rfl ?_
  rw [n2]
  refine go ?_
  refine J_loop (fun q : Ix g.length => [(5, .ad (.l 0) 0), (22, .p b), (23, .p (.int .i64 (g.length : Int))), (24, .p (.int .i64 (q.i : Int)))]) (fun _ => []) (fun q => vN ((g.take q.i).foldl (fun s r => s.range r.1 r.2) s)) (fun q => g.length - q.i) ⟨0, by omega⟩ ⟨rfl, rfl, rfl, rfl, trivial⟩ rfl rfl (fun q => ?_)
  have hi := q.h
  obtain ⟨z1, z2, z3⟩ := k3 q.i hi
  refine go ?_
  by_cases h : q.i < g.length
  · have hx : g[q.i]? = some g[q.i] := List.getElem?_eq_getElem h
    generalize g[q.i] = x at hx
    have hxk := map_get rgV hx
    have hft := fold_take (fun s r => VS.range s r.1 r.2) s hx
    generalize (g.take q.i).foldl (fun s r => VS.range s r.1 r.2) s = u at hft z1 z2 z3
    have c2 := (vrange_spec u x.1 x.2 (by rw [z3]; simp [Tr.size]) (by unfold big40; omega)).toPs (.inl rfl)
    rw [← hft] at c2
    generalize hs' : (g.take (q.i + 1)).foldl (fun s r => VS.range s r.1 r.2) s = u' at c2
    refine K_condT rfl (decide_eq_true (by omega)) ?_
    refine go ?_
    refine K_op rfl rfl (opr_index hT rfl rfl rfl rfl rfl (hb.rd _ _) (by omega) (by rw [n2]; omega)) rfl ?_
    refine go ?_
    refine K_op rfl rfl (opr_load_el hT rfl rfl (hb.rd _ _) hxk rfl rfl) rfl ?_
    refine go ?_
    refine K_op rfl rfl (opr_callS [.l 0, .l 1] rfl rfl (c2) rfl rfl rfl ⟨⟨rfl, rfl⟩, ⟨rfl, rfl⟩, trivial⟩ rfl rfl rfl rfl) rfl ?_
    refine go ?_
    refine J_take 2 [(5, .ad (.l 0) 0), (22, .p b), (23, .p (.int .i64 (g.length : Int))), (24, .p (.int .i64 (IntKind.i64.wrap ((q.i : Int) + 1))))] ⟨rfl, rfl, rfl, rfl, trivial⟩ rfl rfl ?_
    refine J_again ⟨q.i + 1, by omega⟩ (by show g.length - (q.i + 1) < g.length - q.i; omega) ⟨rfl, rfl, rfl, congrArg (fun z => TV.p (.int .i64 z)) (by rw [IntWalk.i64_in _ (by omega)]; rfl), trivial⟩ rfl (by dsimp only; rw [hs']; rfl)
  refine K_condF rfl (decide_eq_false (by omega)) ?_
  rw [show q.i = g.length by omega]
  refine go ?_
  exact J_give hT rfl rfl
end Go.Proofs.Ytbdijekfplpnlaa

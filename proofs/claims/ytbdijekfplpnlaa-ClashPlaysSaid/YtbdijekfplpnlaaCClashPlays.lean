/- The law ClashPlays: its contract. -/
import Derived.Test.YtbdijekfplpnlaaGo
import Derived.Test.YtbdijekfplpnlaaF21h
-- @D
namespace Go.Proofs.Ytbdijekfplpnlaa
set_option maxRecDepth 20000
open Go.Awp Tr
/-- A piece of code in a block that comes to one end in whichever way. -/
theorem J_joinB {P : Program} {Γ : Ctx} {env : Env} {H L : List AObj} {Q : Exit → Act → World → Prop} {b : Nat} (env' : Env) (H' L' : List AObj) {c : Code} {n : Act → World → Prop} (h : J Γ env H L (c.wp P (Only .normal (At Γ env' H' L')))) (k : J Γ env' H' L' n) : J Γ env H L (c.wp P (Exit.inBlock b (Exit.then n Q))) := fun a w β s =>
  wp_mono (h a w β s) fun e a w ⟨he, β', s'⟩ => by subst he; exact k a w β' s'
def gS (G : List (List PW)) (o : HOp) : List (List PW) := if o.kind = 0 then G ++ [o.l] else G
def dS (G : List (List PW)) (d : Nat) (o : HOp) : Nat := if o.kind = 1 then max d (min o.n G.length) else d
structure AnyJ {α : Type} (g : α → Bool) (l : List α) (m : Nat) where
  i : Nat
  b : Bool
  h : m ≤ i
  e : (b || (l.drop i).any g) = (l.drop m).any g
structure HI (l : List HOp) where
  i : Nat
  G : List (List PW)
  d : Nat
  h : i ≤ l.length
  hd : d ≤ G.length
  hG : G.length ≤ i
  hw : ∀ w ∈ G, w.length ≤ 300
theorem dS_le {G : List (List PW)} {d : Nat} {x : HOp} (hd : d ≤ G.length) : dS G d x ≤ (gS G x).length := by
  unfold dS gS
  have : (G ++ [x.l]).length = G.length + 1 := by simp
  split <;> split <;> omega
theorem gS_len {G : List (List PW)} {i : Nat} {x : HOp} (hG : G.length ≤ i) : (gS G x).length ≤ i + 1 := by
  unfold gS
  split
  · simp; omega
  · omega
theorem gS_w {G : List (List PW)} {x : HOp} (hw : ∀ w ∈ G, w.length ≤ 300) (hx : x.l.length ≤ 300) : ∀ w ∈ gS G x, w.length ≤ 300 := by
  unfold gS
  split
  · intro w h
    rcases List.mem_append.1 h with h | h
    · exact hw w h
    · obtain rfl : w = x.l := by simpa using h
      exact hx
  · exact hw
theorem weigh_len (l : List HOp) : l.length ≤ weigh l := by
  unfold weigh
  induction l with
  | nil => simp
  | cons x r ih => simp; omega
theorem weigh_mem {l : List HOp} {x : HOp} (h : x ∈ l) : x.l.length ≤ weigh l := by
  unfold weigh
  induction l with
  | nil => cases h
  | cons y r ih =>
    simp
    rcases List.mem_cons.1 h with rfl | h
    · omega
    · have := ih h; omega
abbrev hL (s : VS) (G : List (List PW)) (d : Nat) : List AObj := [hB (.l 1) d (G.drop d).length, hA (G.drop d), vB (.l 3) s.base s.shown s.writes s.reads s.ranges.length, vR s.ranges, hA G]
namespace clashPlays
set_option maxHeartbeats 8000000 in
theorem con {a0 a1 a2 : AV} (s0 : Shp tab 8 81 a0) (s1 : Shp tab 8 41 a1) (s2 : Shp tab 8 54 a2) : Con Try.prog 14 [.p a0, .p a1, .p a2] [] (.p (.bool true)) [] [] := by
  obtain ⟨l, hle, hok, m0⟩ := hops_shp s0
  refine Con.arg1 ?_ hle
  clear hle s0
  obtain ⟨l1, h1, _, m1⟩ := strs_shp s1
  obtain ⟨l2, h2, _, m2⟩ := rgs_shp s2
  have n0 : (l.map hopV).length = l.length := by simp
  have n1 : (l1.map AV.str).length = l1.length := by simp
  have n2 : (l2.map rgV).length = l2.length := by simp
  have c0 := great_spec (.ps l) m0 hok
  refine con_of Try.func14 rfl (by kernel_rfl) rfl fun F w0 β0 => ?_
  refine K_tell rfl ?_
  refine go ?_
  refine K_op rfl rfl (opr_callP rfl rfl (c0) rfl rfl rfl rfl) rfl ?_
  refine go ?_
  refine K_opt rfl rfl rfl need1 (fun _ => opr_len_rd hT rfl rfl (h1.rd _ _)) rfl ?_
  rw [n1]
  refine go ?_
  refine K_opt rfl rfl rfl need1 (fun _ => opr_len_rd hT rfl rfl (h2.rd _ _)) rfl ?_
  rw [n2]
  refine go ?_
  refine J_cond rfl (fun hc => ?_) (fun hc => ?_)
  · refine go ?_
    refine K_op rfl rfl (opr_callP rfl rfl (fixed21_spec) rfl rfl rfl rfl) rfl ?_
    refine go ?_
    exact J_done hT rfl rfl rfl
  simp only [Bool.or_eq_false_iff, decide_eq_false_iff_not] at hc
  obtain ⟨s, z1, z2, c1⟩ := looked_spec h1 h2 (by omega) (by omega)
  have hwl := weigh_len l
  have c5 := (vreads_spec s (by unfold big40; omega)).freeze (by rw [vReads_V]; simp [vReads, row_len])
  rw [vReads_V] at c5
  have c6 := (vranges_spec s (by unfold big40; omega)).freeze (by simp)
  refine go ?_
  refine K_op rfl rfl (opr_callP rfl rfl (hnew_spec) rfl rfl rfl rfl) rfl ?_
  refine go ?_
  refine K_yes rfl rfl rfl (opr_callP rfl rfl (fixed21_spec) rfl rfl rfl rfl) rfl ?_
  refine go ?_
  refine K_op rfl rfl (opr_callP rfl rfl (c1) rfl rfl rfl rfl) rfl ?_
  refine go ?_
  rw [n0]
  refine go ?_
  refine J_lazyE 9 37 (e := 1) rfl rfl (.inl rfl) ?_
  refine J_loop (fun q : HI l => [(7, .ad (.l 0) 0), (8, .ad (.l 2) 0), (9, .sl (.l 4) q.G.length 0 q.G.length), (10, .p (.int .u64 (q.d : Int))), (45, .p (.ps (l.map hopV))), (46, .p (.int .i64 (l.length : Int))), (47, .p (.int .i64 (q.i : Int)))]) (fun _ => []) (fun q => hL s q.G q.d) (fun q => l.length - q.i) ⟨0, [], 0, by omega, Nat.le_refl _, Nat.le_refl _, by simp⟩ ⟨rfl, rfl, rfl, rfl, rfl, rfl, rfl, trivial⟩ rfl rfl (fun q => ?_)
  obtain ⟨i, G, d, hi, hd, hG, hw⟩ := q
  dsimp only
  refine go ?_
  by_cases h : i < l.length
  · have hx : l[i]? = some l[i] := List.getElem?_eq_getElem h
    have hxm := weigh_mem (List.getElem_mem h)
    obtain ⟨_, hx64⟩ := hok _ (List.getElem_mem h)
    generalize l[i] = x at hx hxm hx64
    have hxk := map_get hopV hx
    have hlenG : (G.map prow).length = G.length := by simp
    have hdl : (G.drop d).length = G.length - d := by simp
    refine K_condT rfl (decide_eq_true (by omega)) ?_
    refine go ?_
    refine K_op rfl rfl (opr_index hT rfl rfl rfl rfl rfl (.ps _) (by omega) (by rw [n0]; omega)) rfl ?_
    refine go ?_
    refine K_op rfl rfl (opr_load_el hT rfl rfl (.ps _) hxk rfl rfl) rfl ?_
    refine go ?_
    refine K_op rfl rfl (opr_len_rd hT rfl rfl (Rd.full rfl hlenG)) rfl ?_
    rw [hlenG]
    refine go ?_
    rw [u64_in (G.length : Int) (by omega)]
    refine J_joinB [(7, .ad (.l 0) 0), (8, .ad (.l 2) 0), (9, .sl (.l 4) (gS G x).length 0 (gS G x).length), (10, .p (.int .u64 (dS G d x : Int))), (45, .p (.ps (l.map hopV))), (46, .p (.int .i64 (l.length : Int))), (47, .p (.int .i64 (i : Int)))] [] (hL s (gS G x) (dS G d x)) ?_ ?_
    · by_cases k0 : x.kind = 0
      · have eG : gS G x = G ++ [x.l] := if_pos k0
        have eD : dS G d x = d := if_neg (by omega)
        have hpl : (x.l.map pwV).length = x.l.length := by simp
        have ed : (G ++ [x.l]).drop d = G.drop d ++ [x.l] := List.drop_append_of_le_length hd
        have c2 := hadd_spec d (G.drop d) x.l (by omega) (by omega)
        rw [← ed] at c2
        rw [eG, eD]
        refine go ?_
        refine K_condT rfl (decide_eq_true k0) ?_
        refine go ?_
        refine K_op rfl rfl (opr_app_lz hT rfl rfl (.inr rfl) rfl rfl (.rd (.ps _)) hbs_ps (pw_cl _) (pw_size _) (by decide) (by decide) (by rw [hpl]; show _ * 40 ≤ _; omega)) rfl ?_
        rw [hpl]
        refine go ?_
        refine K_op rfl rfl (opr_callS [.l 0, .l 1, .l 6] rfl rfl (c2) rfl rfl rfl ⟨⟨rfl, rfl⟩, ⟨rfl, rfl⟩, ⟨rfl, rfl⟩, trivial⟩ rfl rfl rfl rfl) rfl ?_
        refine go ?_
        refine K_condF rfl (by rw [u64_in ((G.length : Int) + 1) (by omega)]; simp; omega) ?_
        refine go ?_
        refine K_op rfl rfl (opr_clear hT rfl rfl rfl rfl rfl rfl hpl) rfl ?_
        refine go ?_
        refine K_op rfl rfl (opr_app_own hT rfl rfl rfl rfl hlenG rfl rfl (.rd (.ps _)) hbs_ps (prow_cl [x.l]) (prow_size [x.l]) (by decide) (by show (G.length + 1) * 24 ≤ _; omega)) rfl ?_
        refine go ?_
        refine J_take 5 [(7, .ad (.l 0) 0), (8, .ad (.l 2) 0), (9, .sl (.l 4) (G.length + 1) 0 (G.length + 1)), (10, .p (.int .u64 (d : Int))), (45, .p (.ps (l.map hopV))), (46, .p (.int .i64 (l.length : Int))), (47, .p (.int .i64 (i : Int)))] ⟨rfl, rfl, rfl, rfl, rfl, rfl, rfl, trivial⟩ rfl rfl ?_
        exact J_at ⟨rfl, rfl, by rw [List.length_append]; rfl, rfl, rfl, rfl, rfl, trivial⟩ rfl (by simp only [hL, hA, List.map_append]; rfl)
      · have eG : gS G x = G := if_neg k0
        rw [eG]
        by_cases k1 : x.kind = 1
        · have eD : dS G d x = max d (min x.n G.length) := if_pos k1
          rw [eD]
          by_cases hno : min x.n (d + (G.drop d).length) ≤ d
          · have c2 := hforget_no d (G.drop d) x.n (by omega) hno
            rw [show max d (min x.n G.length) = d by omega]
            refine go ?_
            refine K_condF rfl (decide_eq_false k0) ?_
            refine go ?_
            refine K_condT rfl (decide_eq_true k1) ?_
            refine go ?_
            refine K_op rfl rfl (opr_callS [.l 0, .l 1] rfl rfl (c2) rfl rfl rfl ⟨⟨rfl, rfl⟩, ⟨rfl, rfl⟩, trivial⟩ rfl rfl rfl rfl) rfl ?_
            refine go ?_
            rw [min_mm, max_mm, show max d (min x.n G.length) = d by omega]
            refine J_take 5 [(7, .ad (.l 0) 0), (8, .ad (.l 2) 0), (9, .sl (.l 4) G.length 0 G.length), (10, .p (.int .u64 (d : Int))), (45, .p (.ps (l.map hopV))), (46, .p (.int .i64 (l.length : Int))), (47, .p (.int .i64 (i : Int)))] ⟨rfl, rfl, rfl, rfl, rfl, rfl, rfl, trivial⟩ rfl rfl ?_
            exact J_at ⟨rfl, rfl, rfl, rfl, rfl, rfl, rfl, trivial⟩ rfl rfl
          · have c2 := hforget_yes d (G.drop d) x.n (by omega) (by omega)
            have e1 : min x.n (d + (G.drop d).length) = max d (min x.n G.length) := by omega
            rw [e1, List.drop_drop, show d + (max d (min x.n G.length) - d) = max d (min x.n G.length) by omega] at c2
            refine go ?_
            refine K_condF rfl (decide_eq_false k0) ?_
            refine go ?_
            refine K_condT rfl (decide_eq_true k1) ?_
            refine go ?_
            refine K_op rfl rfl (opr_callS [.l 0, .l 1] rfl rfl (c2) rfl rfl rfl ⟨⟨rfl, rfl⟩, ⟨rfl, rfl⟩, trivial⟩ rfl rfl rfl rfl) rfl ?_
            refine go ?_
            rw [min_mm, max_mm]
            refine J_pick [0, 6, 2, 3, 4] [(7, .ad (.l 0) 0), (8, .ad (.l 2) 0), (9, .sl (.l 4) G.length 0 G.length), (10, .p (.int .u64 ((max d (min x.n G.length) : Nat) : Int))), (45, .p (.ps (l.map hopV))), (46, .p (.int .i64 (l.length : Int))), (47, .p (.int .i64 (i : Int)))] (hL s G (max d (min x.n G.length))) ⟨rfl, rfl, rfl, rfl, rfl, rfl, rfl, trivial⟩ rfl rfl ⟨⟨rfl, rfl⟩, ⟨rfl, rfl⟩, ⟨rfl, rfl⟩, ⟨rfl, rfl⟩, ⟨rfl, rfl⟩, trivial⟩ ?_
            exact J_at ⟨rfl, rfl, rfl, rfl, rfl, rfl, rfl, trivial⟩ rfl rfl
        have eD : dS G d x = d := if_neg k1
        rw [eD]
        by_cases k2 : x.kind = 2
        · have hpk : ∀ w ∈ G, w.length ≤ big40 := fun w hw' => by have := hw w hw'; unfold big40; omega
          have c2 : Con Try.prog 56 [.ad (.o 0) 0, .p (.int .u64 (x.n : Int)), .ad (.o 2) 0] (hH d (G.drop d) ++ vH2 s) (.tup [.p (.bool ((G.drop (max x.n d)).any (clashB (vReads s) s.ranges))), .p (.bool (decide ((x.n : Int) ≥ (d : Int)) || decide ((x.n : Int) ≥ (G.length : Int))))]) (hH d (G.drop d) ++ vH2 s) [] := by
            by_cases hn : G.length ≤ x.n
            · have := hclash_now d (G.drop d) x.n s (by omega) (by omega)
              rw [show G.drop (max x.n d) = [] from List.drop_eq_nil_of_le (by omega), decide_eq_true (show (x.n : Int) ≥ (G.length : Int) by omega), Bool.or_true]
              exact this
            · have := hclash_spec d (G.drop d) x.n s (by omega) (by omega) (by unfold big40; omega) (by unfold big40; omega) (fun w hw' => hpk w (List.mem_of_mem_drop hw'))
              rw [List.drop_drop, show d + (max x.n d - d) = max x.n d by omega] at this
              rw [decide_eq_false (show ¬(x.n : Int) ≥ (G.length : Int) by omega), Bool.or_false]
              exact this
          generalize hfb : (G.drop (max x.n d)).any (clashB (vReads s) s.ranges) = fb at c2
          refine go ?_
          refine K_condF rfl (decide_eq_false k0) ?_
          refine go ?_
          refine K_condF rfl (decide_eq_false k1) ?_
          refine go ?_
          refine K_condT rfl (decide_eq_true k2) ?_
          refine go ?_
          refine K_op rfl rfl (opr_callS [.l 0, .l 1, .l 2, .l 3] rfl rfl (c2) rfl rfl rfl ⟨⟨rfl, rfl⟩, ⟨rfl, rfl⟩, ⟨rfl, rfl⟩, ⟨rfl, rfl⟩, trivial⟩ rfl rfl rfl rfl) rfl ?_
          refine go ?_
          rw [max_mm]
          generalize hmx : max x.n d = mx at hfb
          refine J_loop (fun q : AnyJ (clashB (vReads s) s.ranges) G mx => [(7, .ad (.l 0) 0), (8, .ad (.l 2) 0), (9, .sl (.l 4) G.length 0 G.length), (10, .p (.int .u64 (d : Int))), (12, .ad (.l 5) 0), (13, .p (.int .u64 (G.length : Int))), (15, .p (.bool fb)), (16, .p (.bool (decide ((x.n : Int) ≥ (d : Int)) || decide ((x.n : Int) ≥ (G.length : Int))))), (17, .p (.bool q.b)), (18, .p (.int .u64 (q.i : Int))), (45, .p (.ps (l.map hopV))), (46, .p (.int .i64 (l.length : Int))), (47, .p (.int .i64 (i : Int)))]) (fun _ => []) (fun _ => hL s G d ++ [.box 88 [.p (.int .i64 x.kind), .p (prow x.l), .p (.int .u64 (x.n : Int))]]) (fun q => G.length - q.i) ⟨mx, false, Nat.le_refl _, rfl⟩ ⟨rfl, rfl, rfl, rfl, rfl, rfl, rfl, rfl, rfl, rfl, rfl, rfl, rfl, trivial⟩ rfl rfl (fun q => ?_)
          obtain ⟨j, b, hj, hb⟩ := q
          have hb' := hb
          dsimp only
          refine go ?_
          by_cases hjl : j < G.length
          · have hy : G[j]? = some G[j] := List.getElem?_eq_getElem hjl
            have hyw := hw _ (List.getElem_mem hjl)
            generalize G[j] = w at hy hyw
            have hyk := map_get prow hy
            rw [any_step _ hy] at hb
            refine K_condT rfl (decide_eq_true (by omega)) ?_
            cases b with
            | true =>
              refine go ?_
              refine J_draw [_] [] (by kernel_rfl) (by kernel_rfl) rfl ?_
              refine gd ?_
              refine go ?_
              rw [u64_in _ (by omega)]
              exact fun a w' β st => ⟨⟨j + 1, true, by omega, by simpa using hb⟩, β, by show G.length - (j + 1) < G.length - j; omega, st.sim, st.step, st.env.sub (sub_of_all ⟨rfl, rfl, rfl, rfl, rfl, rfl, rfl, rfl, rfl, rfl, rfl, rfl, rfl, trivial⟩), st.size, st.defers⟩
            | false =>
              have c7 := rclash_spec (.ps ((vReads s).map .str)) (.ps (s.ranges.map rgV)) (prow w) (vReads s) s.ranges w (fun _ => .ps _) (fun _ => .ps _) (fun _ => .ps _) (by simp [vReads, row_len]; unfold big40; omega) (by unfold big40; omega) (by unfold big40; omega)
              refine go ?_
              refine J_draw [_] [] (by kernel_rfl) (by kernel_rfl) rfl ?_
              refine gd ?_
              refine T_yesD rfl rfl rfl rfl rfl rfl (opr_callS [.l 2, .l 3] rfl rfl c5 rfl rfl rfl ⟨⟨rfl, rfl⟩, ⟨rfl, rfl⟩, trivial⟩ rfl rfl rfl rfl) rfl ?_
              refine gd ?_
              refine T_yesD rfl rfl rfl rfl rfl rfl (opr_callS [.l 2, .l 3] rfl rfl c6 rfl rfl rfl ⟨⟨rfl, rfl⟩, ⟨rfl, rfl⟩, trivial⟩ rfl rfl rfl rfl) rfl ?_
              refine gd ?_
              refine T_yesD rfl rfl rfl rfl rfl rfl (opr_index hT rfl rfl rfl rfl rfl (Rd.full rfl hlenG) (by omega) (by rw [hlenG]; omega)) rfl ?_
              refine T_yesD rfl rfl rfl rfl rfl rfl (opr_load_el hT rfl rfl (Rd.full rfl hlenG) hyk rfl rfl) rfl ?_
              refine gd ?_
              refine T_yesD rfl rfl rfl rfl rfl rfl (opr_call0P rfl rfl c7 rfl rfl rfl) rfl ?_
              refine gd ?_
              refine go ?_
              rw [u64_in _ (by omega)]
              exact fun a w' β st => ⟨⟨j + 1, clashB (vReads s) s.ranges w, by omega, by simpa using hb⟩, β, by show G.length - (j + 1) < G.length - j; omega, st.sim, st.step, st.env.sub (sub_of_all ⟨rfl, rfl, rfl, rfl, rfl, rfl, rfl, rfl, rfl, rfl, rfl, rfl, rfl, trivial⟩), st.size, st.defers⟩
          refine K_condF rfl (decide_eq_false (by omega)) ?_
          rw [List.drop_eq_nil_of_le (by omega)] at hb
          have hbf : b = fb := by rw [← hfb, ← hb]; simp
          rw [hbf]
          refine gx ?_
          rw [show (!(fb == fb)) = false from by simp]
          refine go ?_
          refine K_condF rfl (by cases decide ((x.n : Int) ≥ (d : Int)) <;> cases decide ((x.n : Int) ≥ (G.length : Int)) <;> rfl) ?_
          refine go ?_
          refine J_take 5 [(7, .ad (.l 0) 0), (8, .ad (.l 2) 0), (9, .sl (.l 4) G.length 0 G.length), (10, .p (.int .u64 (d : Int))), (45, .p (.ps (l.map hopV))), (46, .p (.int .i64 (l.length : Int))), (47, .p (.int .i64 (i : Int)))] ⟨rfl, rfl, rfl, rfl, rfl, rfl, rfl, trivial⟩ rfl rfl ?_
          exact J_at ⟨rfl, rfl, rfl, rfl, rfl, rfl, rfl, trivial⟩ rfl rfl
        · refine go ?_
          refine K_condF rfl (decide_eq_false k0) ?_
          refine go ?_
          refine K_condF rfl (decide_eq_false k1) ?_
          refine go ?_
          refine K_condF rfl (decide_eq_false k2) ?_
          refine go ?_
          refine J_take 5 [(7, .ad (.l 0) 0), (8, .ad (.l 2) 0), (9, .sl (.l 4) G.length 0 G.length), (10, .p (.int .u64 (d : Int))), (45, .p (.ps (l.map hopV))), (46, .p (.int .i64 (l.length : Int))), (47, .p (.int .i64 (i : Int)))] ⟨rfl, rfl, rfl, rfl, rfl, rfl, rfl, trivial⟩ rfl rfl ?_
          exact J_at ⟨rfl, rfl, rfl, rfl, rfl, rfl, rfl, trivial⟩ rfl rfl
    · have hd1 := dS_le (x := x) hd
      have hG1 := gS_len (x := x) hG
      have hw1 := gS_w (x := x) hw (by omega)
      generalize gS G x = G1 at hd1 hG1 hw1
      generalize dS G d x = d1 at hd1
      have c2 := hnow_spec d1 (G1.drop d1) (by simp; omega)
      rw [show d1 + (G1.drop d1).length = G1.length by simp; omega] at c2
      have c3 := hlen_spec d1 (G1.drop d1)
      have hl1 : (G1.map prow).length = G1.length := by simp
      refine go ?_
      refine K_op rfl rfl (opr_callS [.l 0, .l 1] rfl rfl (c2) rfl rfl rfl ⟨⟨rfl, rfl⟩, ⟨rfl, rfl⟩, trivial⟩ rfl rfl rfl rfl) rfl ?_
      refine gx ?_
      refine K_op rfl rfl (opr_len_rd hT rfl rfl (Rd.full rfl hl1)) rfl ?_
      rw [hl1]
      refine gx ?_
      rw [u64_in (G1.length : Int) (by omega), show ((G1.length : Int) != (G1.length : Int)) = false from by simp]
      refine gx ?_
      refine K_yes rfl rfl rfl (opr_callS [.l 0, .l 1] rfl rfl (c3) rfl rfl rfl ⟨⟨rfl, rfl⟩, ⟨rfl, rfl⟩, trivial⟩ rfl rfl rfl rfl) rfl ?_
      refine gx ?_
      refine K_yes rfl rfl rfl (opr_len_rd hT rfl rfl (Rd.full rfl hl1)) rfl ?_
      rw [hl1]
      refine gx ?_
      refine K_condF rfl (by have := List.length_drop (i := d1) (l := G1); rw [IntWalk.i64_in (d1 : Int) (by omega), IntWalk.i64_in _ (by omega)]; simp; omega) ?_
      refine go ?_
      refine J_again (ι := HI l) (m := fun q => l.length - q.i) (i := ⟨i, G, d, hi, hd, hG, hw⟩) (ei := fun q => [(7, .ad (.l 0) 0), (8, .ad (.l 2) 0), (9, .sl (.l 4) q.G.length 0 q.G.length), (10, .p (.int .u64 (q.d : Int))), (45, .p (.ps (l.map hopV))), (46, .p (.int .i64 (l.length : Int))), (47, .p (.int .i64 (q.i : Int)))]) (Hi := fun _ => []) (Li := fun q => hL s q.G q.d) ⟨i + 1, G1, d1, by omega, hd1, hG1, hw1⟩ (by show l.length - (i + 1) < l.length - i; omega) ⟨rfl, rfl, rfl, rfl, rfl, rfl, congrArg (fun z => TV.p (.int .i64 z)) (by rw [IntWalk.i64_in _ (by omega)]; rfl), trivial⟩ rfl rfl
  refine K_condF rfl (decide_eq_false (by omega)) ?_
  refine go ?_
  refine K_op rfl rfl (opr_callP rfl rfl (nforget_spec) rfl rfl rfl rfl) rfl ?_
  refine go ?_
  refine K_op rfl rfl (opr_callS [.l 2, .l 3] rfl rfl (nclash_spec s) rfl rfl rfl ⟨⟨rfl, rfl⟩, ⟨rfl, rfl⟩, trivial⟩ rfl rfl rfl rfl) rfl ?_
  refine go ?_
  refine K_op rfl rfl (opr_callP rfl rfl (nadd_spec) rfl rfl rfl rfl) rfl ?_
  refine go ?_
  refine K_yes rfl rfl rfl (opr_callP rfl rfl (nnow_spec) rfl rfl rfl rfl) rfl ?_
  refine go ?_
  refine K_yes rfl rfl rfl (opr_callP rfl rfl (nlen_spec) rfl rfl rfl rfl) rfl ?_
  refine go ?_
  exact J_done hT rfl rfl rfl
end clashPlays
end Go.Proofs.Ytbdijekfplpnlaa

/- clash: a history; Clash. -/
import Derived.Test.YtbdijekfplpnlaaGo
import Derived.Test.YtbdijekfplpnlaaF21f
-- @D
namespace Go.Proofs.Ytbdijekfplpnlaa
set_option maxRecDepth 20000
open Go.Awp Tr
set_option maxHeartbeats 4000000 in
theorem hIndexFunc_spec (G : List (List PW)) (s : TV) (hs : ∃ n st len, s = .sl (.o 0) n st len) (l : List (List PW)) (f : Nat) (k1 k2 : AV) (p : List PW → Bool) (hrd : ∀ L, Rd [hA G] L s (l.map prow)) (hl : l.length ≤ big40) (hf : ∀ x ∈ l, Con Try.prog f [.p (prow x), .p k1, .p k2] [] (.p (.bool (p x))) [] []) : Con Try.prog 87 [s, .fn f [.p k1, .p k2]] [hA G] (.p (.int .i64 (idxG p l 0))) [hA G] [] := by
  obtain ⟨n, st, len, rfl⟩ := hs
  have hlen : (l.map prow).length = l.length := by simp
  unfold big40 at hl
  refine con_of Try.func87 rfl (by kernel_rfl) rfl fun F w0 β0 => ?_
  refine K_tell rfl ?_
  refine go ?_
  refine K_op rfl rfl (opr_len_rd hT rfl rfl (hrd _)) rfl ?_
  rw [hlen]
  refine go ?_
  refine J_loop (fun q : IxG p l => [(0, .sl (.o 0) n st len), (1, .fn f [.p k1, .p k2]), (7, .p (.int .i64 (l.length : Int))), (8, .p (.int .i64 (q.i : Int)))]) (fun _ => [hA G]) (fun _ => []) (fun q => l.length - q.i) ⟨0, by omega, rfl⟩ ⟨rfl, rfl, rfl, rfl, trivial⟩ rfl rfl (fun q => ?_)
  have hi := q.h
  have he := q.e
  refine go ?_
  by_cases h : q.i < l.length
  · have hx : l[q.i]? = some l[q.i] := List.getElem?_eq_getElem h
    have hfx := hf _ (List.getElem_mem h)
    generalize l[q.i] = x at hx hfx
    have hxk := map_get prow hx
    rw [idxG_step _ hx] at he
    refine K_condT rfl (decide_eq_true (by omega)) ?_
    refine go ?_
    refine K_op rfl rfl (opr_index hT rfl rfl rfl rfl rfl (hrd _) (by omega) (by rw [hlen]; omega)) rfl ?_
    refine go ?_
    refine K_op rfl rfl (opr_load_el hT rfl rfl (hrd _) hxk rfl rfl) rfl ?_
    refine go ?_
    refine K_op rfl rfl (opr_callP rfl rfl (hfx) rfl rfl rfl rfl) rfl ?_
    refine go ?_
    by_cases hk : p x = true
    · rw [if_pos hk] at he
      rw [← he]
      refine K_condT rfl hk ?_
      refine go ?_
      exact J_done hT rfl rfl rfl
    · rw [if_neg hk] at he
      refine K_condF rfl (by simpa using hk) ?_
      refine go ?_
      refine J_again ⟨q.i + 1, by omega, he⟩ (by show l.length - (q.i + 1) < l.length - q.i; omega) ⟨rfl, rfl, rfl, congrArg (fun z => TV.p (.int .i64 z)) (by rw [IntWalk.i64_in _ (by omega)]; rfl), trivial⟩ rfl rfl
  rw [List.drop_eq_nil_of_le (by omega), idxG] at he
  rw [← he]
  refine K_condF rfl (decide_eq_false (by omega)) ?_
  refine go ?_
  exact J_done hT rfl rfl rfl
theorem hContainsFunc_spec (G : List (List PW)) (s : TV) (hs : ∃ n st len, s = .sl (.o 0) n st len) (l : List (List PW)) (f : Nat) (k1 k2 : AV) (p : List PW → Bool) (hrd : ∀ L, Rd [hA G] L s (l.map prow)) (hl : l.length ≤ big40) (hf : ∀ x ∈ l, Con Try.prog f [.p (prow x), .p k1, .p k2] [] (.p (.bool (p x))) [] []) : Con Try.prog 75 [s, .fn f [.p k1, .p k2]] [hA G] (.p (.bool (l.any p))) [hA G] [] := by
  have c1 := hIndexFunc_spec G s hs l f k1 k2 p hrd hl hf
  obtain ⟨n, st, len, rfl⟩ := hs
  rw [← idxG_any p l 0]
  generalize idxG p l 0 = z at c1
  refine con_of Try.func75 rfl (by kernel_rfl) rfl fun F w0 β0 => ?_
  refine K_tell rfl ?_
  refine go ?_
  refine K_op rfl rfl (opr_callS [.o 0] rfl rfl (c1) rfl rfl rfl ⟨⟨rfl, rfl⟩, trivial⟩ rfl rfl rfl rfl) rfl ?_
  refine go ?_
  exact J_done hT rfl rfl rfl
theorem hclash1_spec (s1 s2 : AV) (reads : List (List UInt8)) (g : List Rg) (w : List PW) (h1 : ∀ L, Rd [] L (.p s1) (reads.map .str)) (h2 : ∀ L, Rd [] L (.p s2) (g.map rgV)) (l1 : reads.length ≤ big40) (l2 : g.length ≤ big40) (l3 : w.length ≤ big40) : Con Try.prog 76 [.p (prow w), .p (.pp [s1]), .p (.pp [s2])] [] (.p (.bool (clashB reads g w))) [] [] := by
  have c1 := clash_spec s1 s2 (prow w) reads g w h1 h2 (fun _ => .ps _) l1 l2 l3
  obtain ⟨_, t1, u1⟩ := rd_cl (h1 [])
  obtain ⟨_, t2, u2⟩ := rd_cl (h2 [])
  generalize clashB reads g w = b at c1
  refine con_of Try.func76 rfl (by kernel_rfl) rfl fun F w0 β0 => ?_
  refine K_tell rfl ?_
  refine go ?_
  refine K_op rfl rfl (opr_callP rfl rfl (c1) rfl rfl rfl rfl) rfl ?_
  refine go ?_
  exact J_done hT rfl rfl rfl
/-- What a view has looked at. -/
def vReads (s : VS) : List (List UInt8) := s.reads.row.map (·.1)
theorem vReads_V (s : VS) : ksV s.reads.row = (vReads s).map AV.str := by simp [vReads, ksV]
abbrev vH2 (s : VS) : List AObj := [vB (.o 3) s.base s.shown s.writes s.reads s.ranges.length, vR s.ranges]
/-- One that is not behind. -/
theorem hclash_now (d : Nat) (g : List (List PW)) (n : Nat) (s : VS) (h : d + g.length ≤ 900) (hn : d + g.length ≤ n) : Con Try.prog 56 [.ad (.o 0) 0, .p (.int .u64 (n : Int)), .ad (.o 2) 0] (hH d g ++ vH2 s) (.tup [.p (.bool false), .p (.bool true)]) (hH d g ++ vH2 s) [] := by
  have c1 := hnow_spec d g (by omega)
  refine con_of Try.func56 rfl (by kernel_rfl) rfl fun F w0 β0 => ?_
  refine K_tell rfl ?_
  refine go ?_
  refine K_op rfl rfl (opr_callS [.o 0, .o 1] rfl rfl (c1) rfl rfl rfl ⟨⟨rfl, rfl⟩, ⟨rfl, rfl⟩, trivial⟩ rfl rfl rfl rfl) rfl ?_
  refine go ?_
  refine K_condT rfl (decide_eq_true (by omega)) ?_
  refine go ?_
  exact J_done hT rfl rfl rfl
set_option maxHeartbeats 8000000 in
theorem hclash_spec (d : Nat) (g : List (List PW)) (n : Nat) (s : VS) (h : d + g.length ≤ 900) (hn : n < d + g.length) (hr : s.reads.size ≤ big40) (hg : s.ranges.length ≤ big40) (hw : ∀ w ∈ g, w.length ≤ big40) : Con Try.prog 56 [.ad (.o 0) 0, .p (.int .u64 (n : Int)), .ad (.o 2) 0] (hH d g ++ vH2 s) (.tup [.p (.bool ((g.drop (max n d - d)).any (clashB (vReads s) s.ranges))), .p (.bool (decide ((n : Int) ≥ (d : Int))))]) (hH d g ++ vH2 s) [] := by
  have hlen : (g.map prow).length = g.length := by simp
  have c1 := hnow_spec d g (by omega)
  have c2 := vreads_spec s hr
  have c3 := vranges_spec s hg
  rw [vReads_V] at c2
  have hrl : (vReads s).length = s.reads.size := by rw [vReads, List.length_map]; simp [row_len]
  have hk : max n d - d ≤ g.length := by omega
  have ed : ((g.map prow).drop (max n d - d)).take (g.length - (max n d - d)) = (g.drop (max n d - d)).map prow := by
    rw [← List.map_drop]
    exact List.take_of_length_le (by simp)
  have hrd : ∀ L, Rd [hA g] L (.sl (.o 0) g.length (max n d - d) (g.length - (max n d - d))) ((g.drop (max n d - d)).map prow) := fun L => by
    rw [← ed]
    exact .sl rfl hlen
  have c4 := hContainsFunc_spec g _ ⟨_, _, _, rfl⟩ (g.drop (max n d - d)) 76 (.pp [.ps ((vReads s).map .str)]) (.pp [.ps (s.ranges.map rgV)]) (clashB (vReads s) s.ranges) hrd (by unfold big40; simp; omega) (fun x hx => hclash1_spec _ _ (vReads s) s.ranges x (fun _ => .ps _) (fun _ => .ps _) (by rw [hrl]; exact hr) hg (hw x (List.mem_of_mem_drop hx)))
  generalize (g.drop (max n d - d)).any (clashB (vReads s) s.ranges) = fb at c4
  refine con_of Try.func56 rfl (by kernel_rfl) rfl fun F w0 β0 => ?_
  refine K_tell rfl ?_
  refine go ?_
  refine K_op rfl rfl (opr_callS [.o 0, .o 1] rfl rfl (c1) rfl rfl rfl ⟨⟨rfl, rfl⟩, ⟨rfl, rfl⟩, trivial⟩ rfl rfl rfl rfl) rfl ?_
  refine go ?_
  refine K_condF rfl (decide_eq_false (by omega)) ?_
  refine go ?_
  refine K_op rfl rfl (opr_callS [.o 2, .o 3] rfl rfl (c2) rfl rfl rfl ⟨⟨rfl, rfl⟩, ⟨rfl, rfl⟩, trivial⟩ rfl rfl rfl rfl) rfl ?_
  refine go ?_
  refine K_op rfl rfl (opr_callS [.o 2, .o 3] rfl rfl (c3) rfl rfl rfl ⟨⟨rfl, rfl⟩, ⟨rfl, rfl⟩, trivial⟩ rfl rfl rfl rfl) rfl ?_
  refine J_freeze_all 17 0 rfl rfl (by simp [hrl]) ?_
  refine J_freeze_all 19 1 rfl rfl (by simp) ?_
  refine go ?_
  refine J_freeze_box 8 2 rfl rfl rfl ?_
  refine J_freeze_box 9 3 rfl rfl rfl ?_
  refine J_take 0 [(0, .ad (.o 0) 0), (1, .p (.int .u64 (n : Int))), (2, .ad (.o 2) 0), (8, .p (.pp [.ps ((vReads s).map .str)])), (9, .p (.pp [.ps (s.ranges.map rgV)]))] ⟨rfl, rfl, rfl, rfl, rfl, trivial⟩ rfl rfl ?_
  refine J_draw [_] [] (by kernel_rfl) (by kernel_rfl) rfl ?_
  refine gd ?_
  refine J_val 10 (.p (.int .u64 ((max n d - d : Nat) : Int))) rfl (by show TV.p (.int .u64 (IntKind.u64.wrap (mmA Builtin.max (n : Int) (d : Int) - (d : Int)))) = _; rw [max_mm, u64_in _ (by omega), Int.ofNat_sub (by omega)]) ?_
  generalize max n d - d = k at hk c4
  refine J_weak [(0, .ad (.o 0) 0), (1, .p (.int .u64 (n : Int))), (2, .ad (.o 2) 0), (8, .p (.pp [.ps ((vReads s).map .str)])), (9, .p (.pp [.ps (s.ranges.map rgV)])), (10, .p (.int .u64 (k : Int)))] ⟨rfl, rfl, rfl, rfl, rfl, rfl, trivial⟩ ?_
  refine go ?_
  refine K_op rfl rfl (opr_cut_full hT rfl rfl rfl rfl (Rd.full rfl hlen) rfl hlen (by omega) (prow_size g)) rfl ?_
  refine go ?_
  refine K_op rfl rfl (opr_func rfl) rfl ?_
  refine go ?_
  refine K_op rfl rfl (opr_callS [.o 1] rfl rfl (c4) rfl rfl rfl ⟨⟨rfl, rfl⟩, trivial⟩ rfl rfl rfl rfl) rfl ?_
  refine go ?_
  refine J_draw [_] [] (by kernel_rfl) (by kernel_rfl) rfl ?_
  refine gd ?_
  refine go ?_
  exact J_done hT rfl rfl rfl
end Go.Proofs.Ytbdijekfplpnlaa

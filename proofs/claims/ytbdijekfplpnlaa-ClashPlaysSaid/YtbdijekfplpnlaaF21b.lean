/- clash: Clash. -/
import Derived.Test.YtbdijekfplpnlaaGo
import Derived.Test.YtbdijekfplpnlaaF21
-- @D
namespace Go.Proofs.Ytbdijekfplpnlaa
set_option maxRecDepth 20000
open Go.Awp Tr
/-- Is a key in a range? -/
def inRg (k : List UInt8) (r : Rg) : Bool := !Op.bytesLess k r.1 && Op.bytesLess k r.2
/-- Does what was written under a key clash? -/
def hitB (reads : List (List UInt8)) (g : List Rg) (k : List UInt8) : Bool := (reads.any fun x => k == x) || g.any (inRg k)
def clashB (reads : List (List UInt8)) (g : List Rg) (w : List PW) : Bool := w.any fun p => hitB reads g p.1
theorem clash2_spec (p : PW) (r : Rg) : Con Try.prog 72 [.p (rgV r), .p (.pp [.str p.1, .str p.2.1, .bool p.2.2])] [] (.p (.bool (inRg p.1 r))) [] [] := by
  refine con_of Try.func72 rfl (by kernel_rfl) rfl fun F w0 β0 => ?_
  refine K_tell rfl ?_
  refine go ?_
  refine K_opt rfl rfl rfl trivial (fun _ => opr_idxArr hT rfl rfl rfl rfl rfl) rfl ?_
  refine go ?_
  refine J_val 3 (.p (.bool (inRg p.1 r))) rfl (by show TV.p (.bool ((Op.bytesLess r.1 p.1 || r.1 == p.1) && Op.bytesLess p.1 r.2)) = _; rw [leB]; rfl) ?_
  exact J_done hT rfl rfl rfl
theorem clash1_spec (s1 s2 : AV) (reads : List (List UInt8)) (g : List Rg) (h1 : ∀ L, Rd [] L (.p s1) (reads.map .str)) (h2 : ∀ L, Rd [] L (.p s2) (g.map rgV)) (l1 : reads.length ≤ big40) (l2 : g.length ≤ big40) (p : PW) : Con Try.prog 69 [.p (pwV p), .p (.pp [s1]), .p (.pp [s2])] [] (.p (.bool (hitB reads g p.1))) [] [] := by
  have c1 := strContains_spec s1 reads p.1 h1 l1
  have c2 := rgContainsFunc_spec s2 g 72 (.pp [.str p.1, .str p.2.1, .bool p.2.2]) (inRg p.1) h2 l2 (fun x _ => clash2_spec p x)
  unfold hitB
  generalize (reads.any fun x => p.1 == x) = b1 at c1
  generalize g.any (inRg p.1) = b2 at c2
  refine con_of Try.func69 rfl (by kernel_rfl) rfl fun F w0 β0 => ?_
  refine K_tell rfl ?_
  refine go ?_
  refine K_op rfl rfl (opr_callP rfl rfl (c1) rfl rfl rfl rfl) rfl ?_
  refine J_freeze_box 3 0 rfl rfl rfl ?_
  refine go ?_
  refine K_opt rfl rfl rfl trivial (fun _ => opr_func rfl) rfl ?_
  refine go ?_
  refine K_opt rfl rfl rfl need2 (fun _ => opr_callP rfl rfl (c2) rfl rfl rfl rfl) rfl ?_
  refine go ?_
  exact J_done hT rfl rfl rfl
set_option maxHeartbeats 4000000 in
theorem pwIndexFunc_spec (s : AV) (l : List PW) (f : Nat) (k1 k2 : AV) (g : PW → Bool) (hrd : ∀ L, Rd [] L (.p s) (l.map pwV)) (hl : l.length ≤ big40) (hf : ∀ x ∈ l, Con Try.prog f [.p (pwV x), .p k1, .p k2] [] (.p (.bool (g x))) [] []) : Con Try.prog 84 [.p s, .fn f [.p k1, .p k2]] [] (.p (.int .i64 (idxG g l 0))) [] [] := by
  have hlen : (l.map pwV).length = l.length := by simp
  unfold big40 at hl
  refine con_of Try.func84 rfl (by kernel_rfl) rfl fun F w0 β0 => ?_
  refine K_tell rfl ?_
  refine go ?_
  refine K_op rfl rfl (opr_len_rd hT rfl rfl (hrd _)) rfl ?_
  rw [hlen]
  refine go ?_
  refine J_loop (fun q : IxG g l => [(0, .p s), (1, .fn f [.p k1, .p k2]), (7, .p (.int .i64 (l.length : Int))), (8, .p (.int .i64 (q.i : Int)))]) (fun _ => []) (fun _ => []) (fun q => l.length - q.i) ⟨0, by omega, rfl⟩ ⟨rfl, rfl, rfl, rfl, trivial⟩ rfl rfl (fun q => ?_)
  have hi := q.h
  have he := q.e
  refine go ?_
  by_cases h : q.i < l.length
  · have hx : l[q.i]? = some l[q.i] := List.getElem?_eq_getElem h
    have hfx := hf _ (List.getElem_mem h)
    generalize l[q.i] = x at hx hfx
    have hxk := map_get pwV hx
    rw [idxG_step _ hx] at he
    refine K_condT rfl (decide_eq_true (by omega)) ?_
    refine go ?_
    refine K_op rfl rfl (opr_index hT rfl rfl rfl rfl rfl (hrd _) (by omega) (by rw [hlen]; omega)) rfl ?_
    refine go ?_
    refine K_op rfl rfl (opr_load_el hT rfl rfl (hrd _) hxk rfl rfl) rfl ?_
    refine go ?_
    refine K_op rfl rfl (opr_callP rfl rfl (hfx) rfl rfl rfl rfl) rfl ?_
    refine go ?_
    by_cases hk : g x = true
    · rw [if_pos hk] at he
      rw [← he]
      refine K_condT rfl hk ?_
      refine go ?_
      exact J_done hT rfl rfl rfl
    · rw [if_neg hk] at he
      refine K_condF rfl (by simpa using hk) ?_
      refine go ?_
      refine J_again ⟨q.i + 1, by omega, he⟩ (by show l.length - (q.i + 1) < l.length - q.i; omega) ⟨rfl, rfl, rfl, congrArg (fun z => TV.p (.int .i64 z)) (by rw [IntWalk.i64_in _ (by omega)]; rfl), trivial⟩ rfl rfl
  rw [List.drop_eq_nil_of_le (by omega), idxG] at he
  rw [← he]
  refine K_condF rfl (decide_eq_false (by omega)) ?_
  refine go ?_
  exact J_done hT rfl rfl rfl
theorem pwContainsFunc_spec (s : AV) (l : List PW) (f : Nat) (k1 k2 : AV) (g : PW → Bool) (hrd : ∀ L, Rd [] L (.p s) (l.map pwV)) (hl : l.length ≤ big40) (hf : ∀ x ∈ l, Con Try.prog f [.p (pwV x), .p k1, .p k2] [] (.p (.bool (g x))) [] []) : Con Try.prog 68 [.p s, .fn f [.p k1, .p k2]] [] (.p (.bool (l.any g))) [] [] := by
  have c1 := pwIndexFunc_spec s l f k1 k2 g hrd hl hf
  rw [← idxG_any g l 0]
  generalize idxG g l 0 = z at c1
  refine con_of Try.func68 rfl (by kernel_rfl) rfl fun F w0 β0 => ?_
  refine K_tell rfl ?_
  refine go ?_
  refine K_op rfl rfl (opr_callP rfl rfl (c1) rfl rfl rfl rfl) rfl ?_
  refine go ?_
  exact J_done hT rfl rfl rfl
/-- A slice that stays: one cell. -/
theorem rd_cl {s : AV} {rows : List AV} (h : Rd [] [] (.p s) rows) : cl s = true ∧ tcells (.p s) = some [.p s] ∧ unpL [.p s] = some [s] := by
  cases h <;> exact ⟨rfl, rfl, rfl⟩
theorem clash_spec (s1 s2 s3 : AV) (reads : List (List UInt8)) (g : List Rg) (w : List PW) (h1 : ∀ L, Rd [] L (.p s1) (reads.map .str)) (h2 : ∀ L, Rd [] L (.p s2) (g.map rgV)) (h3 : ∀ L, Rd [] L (.p s3) (w.map pwV)) (l1 : reads.length ≤ big40) (l2 : g.length ≤ big40) (l3 : w.length ≤ big40) :
    Con Try.prog 49 [.p s1, .p s2, .p s3] [] (.p (.bool (clashB reads g w))) [] [] := by
  have c1 := pwContainsFunc_spec s3 w 69 (.pp [s1]) (.pp [s2]) (fun p => hitB reads g p.1) h3 l3 (fun p _ => clash1_spec s1 s2 reads g h1 h2 l1 l2 p)
  obtain ⟨_, t1, u1⟩ := rd_cl (h1 [])
  obtain ⟨_, t2, u2⟩ := rd_cl (h2 [])
  change Con Try.prog _ _ [] (.p (.bool (clashB reads g w))) [] [] at c1
  generalize clashB reads g w = b at c1
  refine con_of Try.func49 rfl (by kernel_rfl) rfl fun F w0 β0 => ?_
  refine K_tell rfl ?_
  refine go ?_
  refine K_op rfl rfl (opr_boxP rfl t1 u1) rfl ?_
  refine go ?_
  refine K_op rfl rfl (opr_boxP rfl t2 u2) rfl ?_
  refine go ?_
  refine K_op rfl rfl (opr_func rfl) rfl ?_
  refine go ?_
  refine K_op rfl rfl (opr_callP rfl rfl (c1) rfl rfl rfl rfl) rfl ?_
  refine go ?_
  exact J_done hT rfl rfl rfl
end Go.Proofs.Ytbdijekfplpnlaa

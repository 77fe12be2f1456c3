/- Contracts and plain laws, several texts joined: F19e, F19f, F19g. -/
import Derived.Test.YtfnpelogfcnanaaGreatDoorGo
import Derived.Test.YtfnpelogfcnanaaGreatDoorM22
import Derived.Test.YtfnpelogfcnanaaGreatDoorM12
import Derived.Test.YtfnpelogfcnanaaGreatDoorM14
import Derived.Test.YtfnpelogfcnanaaGreatDoorM23
import Derived.Test.YtfnpelogfcnanaaGreatDoorM13
import Derived.Test.YtfnpelogfcnanaaGreatDoorM24
import Derived.Test.YtfnpelogfcnanaaGreatDoorM19
/- flintref19: file, Read, zeros, Write, Truncate. -/
-- @D
namespace Go.Proofs.YtfnpelogfcnanaaGreatDoor
set_option maxRecDepth 20000
open Go.Awp Tr
theorem ixF_none {i : Int} : ∀ {f : MF} (j : Nat), f.at i = none → ixF f i j = -1
  | [], _, _ => rfl
  | y :: r, j, h => by
    rw [at_cons] at h
    unfold ixF
    by_cases e : y.i = i
    · rw [if_pos e] at h; cases h
    · rw [if_neg e] at h ⊢
      exact ixF_none (j + 1) h
/-- A node, or none, as it is handed back. -/
def fnT : Option MN → TV
  | some x => nodT x
  | none => .agg [.p (.int .u32 0), .p (.int .u8 0), .p (.int .i64 0), .p (.str []), .p .nils]
def fnE : Option MN → Int
  | some _ => 0
  | none => 16
set_option maxHeartbeats 8000000 in
theorem rfile_spec (f : MF) (i : Int) (hf : f.length ≤ 100000) : Con Tryz.prog 115 [fsA f, .p (.int .u32 i)] [] (.tup [fnT (f.file i), .p (.int .i64 (fnE (f.file i)))]) [] [] := by
  have c1 := rAt_spec f i hf
  cases hx : f.at i with
  | none =>
    have e0 : f.file i = none := by unfold MF.file; rw [hx]
    rw [e0]
    have e : f.ix i = -1 := ixF_none 0 hx
    rw [e] at c1
    show Con _ _ _ _ (.tup [.agg [.p (.int .u32 0), .p (.int .u8 0), .p (.int .i64 0), .p (.str []), .p .nils], .p (.int .i64 16)]) _ _
    refine con_of Tryz.func115 rfl (by kernel_rfl) rfl fun F w0 β0 => ?_
    refine K_tell rfl ?_
    refine go ?_
    refine K_op rfl rfl (opr_callP rfl rfl (c1) rfl rfl rfl rfl) rfl ?_
    refine go ?_
    exact J_done hT rfl rfl rfl
  | some x =>
    obtain ⟨n, h1, h2⟩ := ix_at hx
    rw [h1] at c1
    have hlt := (List.getElem?_eq_some_iff.1 h2).1
    have hlen : (nods f).length = f.length := by simp
    have hxk := nods_get h2
    by_cases hk : x.k = 1
    · rw [show f.file i = some x by unfold MF.file; rw [hx]; exact if_pos hk]
      show Con _ _ _ _ (.tup [nodT x, .p (.int .i64 0)]) _ _
      refine con_of Tryz.func115 rfl (by kernel_rfl) rfl fun F w0 β0 => ?_
      refine K_tell rfl ?_
      refine go ?_
      refine K_op rfl rfl (opr_callP rfl rfl (c1) rfl rfl rfl rfl) rfl ?_
      refine gx ?_
      refine J_val 12 (.p (.bool false)) rfl (congrArg (fun z => TV.p (.bool z)) (decide_eq_false (by omega))) ?_
      refine gx ?_
      refine K_yes rfl rfl rfl (opr_index hT rfl rfl rfl rfl rfl (.ps _) (by omega) (by rw [hlen]; omega)) rfl ?_
      refine gx ?_
      refine K_yes rfl rfl rfl (opr_load_el hT rfl rfl (.ps _) hxk rfl rfl) rfl ?_
      refine gx ?_
      refine K_condF rfl (by simp [hk]) ?_
      refine go ?_
      refine K_op rfl rfl (opr_index hT rfl rfl rfl rfl rfl (.ps _) (by omega) (by rw [hlen]; omega)) rfl ?_
      refine go ?_
      refine K_op rfl rfl (opr_load_el hT rfl rfl (.ps _) hxk rfl rfl) rfl ?_
      refine go ?_
      exact J_done hT rfl rfl rfl
    · rw [show f.file i = none by unfold MF.file; rw [hx]; exact if_neg hk]
      show Con _ _ _ _ (.tup [.agg [.p (.int .u32 0), .p (.int .u8 0), .p (.int .i64 0), .p (.str []), .p .nils], .p (.int .i64 16)]) _ _
      refine con_of Tryz.func115 rfl (by kernel_rfl) rfl fun F w0 β0 => ?_
      refine K_tell rfl ?_
      refine go ?_
      refine K_op rfl rfl (opr_callP rfl rfl (c1) rfl rfl rfl rfl) rfl ?_
      refine gx ?_
      refine J_val 12 (.p (.bool false)) rfl (congrArg (fun z => TV.p (.bool z)) (decide_eq_false (by omega))) ?_
      refine gx ?_
      refine K_yes rfl rfl rfl (opr_index hT rfl rfl rfl rfl rfl (.ps _) (by omega) (by rw [hlen]; omega)) rfl ?_
      refine gx ?_
      refine K_yes rfl rfl rfl (opr_load_el hT rfl rfl (.ps _) hxk rfl rfl) rfl ?_
      refine gx ?_
      refine K_condT rfl (by simpa using hk) ?_
      refine go ?_
      exact J_done hT rfl rfl rfl
structure ZrI (n : Nat) where
  k : Nat
  h : k ≤ n
set_option maxHeartbeats 4000000 in
theorem zeros_spec (n : Nat) (hn : n ≤ 100000) : Con Tryz.prog 116 [.p (.int .i64 (n : Int))] [] (.p (.str (List.replicate n 0))) [] [] := by
  refine con_of Tryz.func116 rfl (by kernel_rfl) rfl fun F w0 β0 => ?_
  refine K_tell rfl ?_
  refine go ?_
  refine J_loop (fun q : ZrI n => [(0, .p (.int .i64 (n : Int))), (3, .p (.str (List.replicate q.k 0))), (4, .p (.int .i64 (q.k : Int)))]) (fun _ => []) (fun _ => []) (fun q => n - q.k) ⟨0, by omega⟩ ⟨rfl, rfl, rfl, trivial⟩ rfl rfl (fun q => ?_)
  have hk := q.h
  refine go ?_
  by_cases hlt : q.k < n
  · refine K_condT rfl (decide_eq_true (by omega)) ?_
    refine go ?_
    refine K_op rfl rfl (opr_cat rfl rfl rfl (by rw [List.length_replicate]; show q.k + 1 ≤ _; omega)) rfl ?_
    refine go ?_
    refine J_again ⟨q.k + 1, by omega⟩ (by show n - (q.k + 1) < n - q.k; omega) ⟨rfl, congrArg (fun z => TV.p (.str z)) List.replicate_succ'.symm, congrArg (fun z => TV.p (.int .i64 z)) (by rw [IntWalk.i64_in _ (by omega)]; rfl), trivial⟩ rfl rfl
  · refine K_condF rfl (decide_eq_false (by omega)) ?_
    rw [show q.k = n by omega]
    refine go ?_
    exact J_done hT rfl rfl rfl
set_option maxHeartbeats 8000000 in
theorem rfread_spec (f : MF) (i o n : Int) (hf : f.length ≤ 100000) (hb : ∀ x ∈ f, x.b.length ≤ 100000) (hn : -9223372036854775808 ≤ n ∧ n ≤ 9223372036854775807) :
    Con Tryz.prog 78 [fsA f, .p (.int .u32 i), .p (.int .i64 o), .p (.int .i64 n)] [] (.tup [.p (.str (f.fread i o n).1), .p (.int .i64 (f.fread i o n).2)]) [] [] := by
  have c1 := rfile_spec f i hf
  have hm : ∀ x, f.file i = some x → x ∈ f := fun x h => (at_mem (file_at h).1).1
  unfold MF.fread
  generalize f.file i = g at c1 hm
  cases g with
  | none =>
    change Con _ _ _ _ (.tup [.agg [.p (.int .u32 0), .p (.int .u8 0), .p (.int .i64 0), .p (.str []), .p .nils], .p (.int .i64 16)]) _ _ at c1
    refine con_of Tryz.func78 rfl (by kernel_rfl) rfl fun F w0 β0 => ?_
    refine K_tell rfl ?_
    refine go ?_
    refine K_op rfl rfl (opr_callP rfl rfl (c1) rfl rfl rfl rfl) rfl ?_
    refine go ?_
    exact J_done hT rfl rfl rfl
  | some x =>
    change Con _ _ _ _ (.tup [nodT x, .p (.int .i64 0)]) _ _ at c1
    have hb := hb x (hm x rfl)
    dsimp only
    by_cases h1 : o < 0 ∨ n < 0 ∨ n > 1024
    · rw [if_pos h1]
      refine con_of Tryz.func78 rfl (by kernel_rfl) rfl fun F w0 β0 => ?_
      refine K_tell rfl ?_
      refine go ?_
      refine K_op rfl rfl (opr_callP rfl rfl (c1) rfl rfl rfl rfl) rfl ?_
      refine go ?_
      refine K_condT rfl (by rcases h1 with q | q | q <;> simp [q]) ?_
      refine go ?_
      exact J_done hT rfl rfl rfl
    rw [if_neg h1]
    by_cases h2 : o ≥ (x.b.length : Int)
    · rw [if_pos h2]
      refine con_of Tryz.func78 rfl (by kernel_rfl) rfl fun F w0 β0 => ?_
      refine K_tell rfl ?_
      refine go ?_
      refine K_op rfl rfl (opr_callP rfl rfl (c1) rfl rfl rfl rfl) rfl ?_
      refine go ?_
      refine K_condF rfl (by simp; omega) ?_
      refine go ?_
      refine K_condT rfl (decide_eq_true h2) ?_
      refine go ?_
      exact J_done hT rfl rfl rfl
    rw [if_neg h2]
    have e46 : IntKind.i64.wrap (o + mmA .min n (IntKind.i64.wrap ((x.b.length : Int) - o))) = o + min n ((x.b.length : Int) - o) := by
      rw [mm_min2, IntWalk.i64_in ((x.b.length : Int) - o) (by omega), IntWalk.i64_in _ (by omega)]
    refine con_of Tryz.func78 rfl (by kernel_rfl) rfl fun F w0 β0 => ?_
    refine K_tell rfl ?_
    refine go ?_
    refine K_op rfl rfl (opr_callP rfl rfl (c1) rfl rfl rfl rfl) rfl ?_
    refine go ?_
    refine K_condF rfl (by simp; omega) ?_
    refine go ?_
    refine K_condF rfl (decide_eq_false h2) ?_
    refine go ?_
    refine J_val 47 (.p (.int .i64 (o + min n ((x.b.length : Int) - o)))) rfl (congrArg (fun z => TV.p (.int .i64 z)) e46) ?_
    refine K_op rfl rfl (opr_cut_str (i := o) (j := o + min n ((x.b.length : Int) - o)) hT rfl rfl rfl rfl rfl (by omega) (by omega) (by omega)) rfl ?_
    rw [show (o + min n ((x.b.length : Int) - o)).toNat - o.toNat = min n.toNat (x.b.length - o.toNat) by omega]
    refine go ?_
    exact J_done hT rfl rfl rfl
end Go.Proofs.YtfnpelogfcnanaaGreatDoor

/- flintref19: Write, Truncate. -/
-- @D
namespace Go.Proofs.YtfnpelogfcnanaaGreatDoor
set_option maxRecDepth 20000
open Go.Awp Tr
abbrev nT0 : TV := .agg [.p (.int .u32 0), .p (.int .u8 0), .p (.int .i64 0), .p (.str []), .p .nils]
set_option maxHeartbeats 16000000 in
theorem rfwrite_spec (f : MF) (i o : Int) (b : List UInt8) (hf : f.length ≤ 100000) (hb : ∀ x ∈ f, x.b.length ≤ 100000) (ho : -9223372036854775808 ≤ o ∧ o ≤ 9223372036854775807) (hbl : b.length ≤ 140737488355328) :
    Con Tryz.prog 79 [fsA f, .p (.int .u32 i), .p (.int .i64 o), .p (.str b)] [] (eT (f.fwrite i o b).1 (f.fwrite i o b).2) [] [] := by
  have c1 := rfile_spec f i hf
  have hm : ∀ x, f.file i = some x → x ∈ f := fun x h => (at_mem (file_at h).1).1
  unfold MF.fwrite
  generalize f.file i = g at c1 hm
  cases g with
  | none =>
    change Con _ _ _ _ (.tup [nT0, .p (.int .i64 16)]) _ _ at c1
    refine con_of Tryz.func79 rfl (by kernel_rfl) rfl fun F w0 β0 => ?_
    refine K_tell rfl ?_
    refine go ?_
    refine K_op rfl rfl (opr_callP rfl rfl (c1) rfl rfl rfl rfl) rfl ?_
    refine go ?_
    refine J_drawS 3 (by kernel_rfl) (by kernel_rfl) ?_
    apply Exists.intro
    refine gdW ?_
    refine go ?_
    exact J_done hT rfl rfl rfl
  | some x =>
    change Con _ _ _ _ (.tup [nodT x, .p (.int .i64 0)]) _ _ at c1
    have hb := hb x (hm x rfl)
    dsimp only
    by_cases h1 : o < 0 ∨ (b.length : Int) > 1024
    · rw [if_pos h1]
      refine con_of Tryz.func79 rfl (by kernel_rfl) rfl fun F w0 β0 => ?_
      refine K_tell rfl ?_
      refine go ?_
      refine K_op rfl rfl (opr_callP rfl rfl (c1) rfl rfl rfl rfl) rfl ?_
      refine go ?_
      refine K_condT rfl (by rcases h1 with q | q <;> simp [q] <;> omega) ?_
      refine go ?_
      refine J_drawS 2 (by kernel_rfl) (by kernel_rfl) ?_
      apply Exists.intro
      refine gdW ?_
      refine go ?_
      exact J_done hT rfl rfl rfl
    rw [if_neg h1]
    by_cases h2 : o > 4096 ∨ o + (b.length : Int) > 4096
    · rw [if_pos h2]
      refine con_of Tryz.func79 rfl (by kernel_rfl) rfl fun F w0 β0 => ?_
      refine K_tell rfl ?_
      refine go ?_
      refine K_op rfl rfl (opr_callP rfl rfl (c1) rfl rfl rfl rfl) rfl ?_
      refine go ?_
      refine K_condF rfl (by simp; omega) ?_
      refine go ?_
      refine K_condT rfl ?_ ?_
      · by_cases h3 : o > 4096
        · rw [decide_eq_true h3]; rfl
        · rw [decide_eq_false h3]
          exact decide_eq_true (by rw [IntWalk.i64_in _ (by omega)]; omega)
      refine go ?_
      refine J_drawS 2 (by kernel_rfl) (by kernel_rfl) ?_
      apply Exists.intro
      refine gdW ?_
      refine go ?_
      exact J_done hT rfl rfl rfl
    rw [if_neg h2]
    by_cases h3 : b.length = 0
    · rw [if_pos h3]
      refine con_of Tryz.func79 rfl (by kernel_rfl) rfl fun F w0 β0 => ?_
      refine K_tell rfl ?_
      refine go ?_
      refine K_op rfl rfl (opr_callP rfl rfl (c1) rfl rfl rfl rfl) rfl ?_
      refine go ?_
      refine K_condF rfl (by simp; omega) ?_
      refine go ?_
      refine K_condF rfl (by rw [decide_eq_false (show ¬ o > 4096 by omega)]; exact decide_eq_false (by rw [IntWalk.i64_in _ (by omega)]; omega)) ?_
      refine go ?_
      refine K_condT rfl (by rw [h3]; rfl) ?_
      refine go ?_
      refine J_drawS 2 (by kernel_rfl) (by kernel_rfl) ?_
      apply Exists.intro
      refine gdW ?_
      refine go ?_
      exact J_done hT rfl rfl rfl
    rw [if_neg h3]
    have c2 := zeros_spec (o.toNat - x.b.length) (by omega)
    have e53 : mmA .max 0 (IntKind.i64.wrap (o - (x.b.length : Int))) = ((o.toNat - x.b.length : Nat) : Int) := by
      rw [mm_max2, IntWalk.i64_in _ (by omega)]; omega
    rw [← e53] at c2
    have c3 := rWith_spec f { x with b := wrB x.b o.toNat b } hf
    generalize f.with { x with b := wrB x.b o.toNat b } = f' at c3
    unfold wrB padT at c3
    have hdl : (x.b ++ List.replicate (o.toNat - x.b.length) 0).length = x.b.length + (o.toNat - x.b.length) := by simp
    generalize hd : x.b ++ List.replicate (o.toNat - x.b.length) 0 = d at c3 hdl
    have ecut : (d.drop (IntKind.i64.wrap (o + (b.length : Int))).toNat).take ((d.length : Int).toNat - (IntKind.i64.wrap (o + (b.length : Int))).toNat) = d.drop (o.toNat + b.length) := by
      rw [IntWalk.i64_in _ (by omega), show (o + (b.length : Int)).toNat = o.toNat + b.length by omega, List.take_of_length_le (by simp)]
    have ebeg : (d.drop (0 : Int).toNat).take (o.toNat - (0 : Int).toNat) = d.take o.toNat := rfl
    have e59 : IntKind.i64.wrap (o + (b.length : Int)) = o + (b.length : Int) := IntWalk.i64_in _ (by omega)
    by_cases h4 : o.toNat + b.length < d.length
    · skip
      refine con_of Tryz.func79 rfl (by kernel_rfl) rfl fun F w0 β0 => ?_
      refine K_tell rfl ?_
      refine go ?_
      refine K_op rfl rfl (opr_callP rfl rfl (c1) rfl rfl rfl rfl) rfl ?_
      refine go ?_
      refine K_condF rfl (by simp; omega) ?_
      refine go ?_
      refine K_condF rfl (by rw [decide_eq_false (show ¬ o > 4096 by omega)]; exact decide_eq_false (by rw [e59]; omega)) ?_
      refine go ?_
      refine K_condF rfl (by simpa using h3) ?_
      refine go ?_
      refine J_draw [_] [] (by kernel_rfl) (by kernel_rfl) rfl ?_
      refine gd ?_
      refine T_opD rfl rfl rfl rfl rfl (opr_call0P rfl rfl c2 rfl rfl rfl) rfl ?_
      refine gd ?_
      refine T_opD rfl rfl rfl rfl rfl (opr_cat rfl rfl rfl (by rw [List.length_replicate]; omega)) rfl ?_
      refine gd ?_
      refine go ?_
      rw [hd]
      refine K_condT rfl (decide_eq_true (by rw [e59]; omega)) ?_
      refine go ?_
      refine K_op rfl rfl (opr_cut_str (i := IntKind.i64.wrap (o + (b.length : Int))) (j := (d.length : Int)) hT rfl rfl rfl rfl rfl (by rw [e59]; omega) (by rw [e59]; omega) (by omega)) rfl ?_
      rw [ecut]
      refine go ?_
      refine K_op rfl rfl (opr_cut_str (i := 0) (j := o) hT rfl rfl rfl rfl rfl (by omega) (by omega) (by omega)) rfl ?_
      rw [ebeg]
      refine go ?_
      refine K_op rfl rfl (opr_cat rfl rfl rfl (by simp; omega)) rfl ?_
      refine go ?_
      refine K_op rfl rfl (opr_cat rfl rfl rfl (by simp; omega)) rfl ?_
      refine go ?_
      refine K_op rfl rfl (opr_callP rfl rfl (c3) rfl rfl rfl rfl) rfl ?_
      refine go ?_
      exact J_done hT rfl rfl rfl
    · skip
      refine con_of Tryz.func79 rfl (by kernel_rfl) rfl fun F w0 β0 => ?_
      refine K_tell rfl ?_
      refine go ?_
      refine K_op rfl rfl (opr_callP rfl rfl (c1) rfl rfl rfl rfl) rfl ?_
      refine go ?_
      refine K_condF rfl (by simp; omega) ?_
      refine go ?_
      refine K_condF rfl (by rw [decide_eq_false (show ¬ o > 4096 by omega)]; exact decide_eq_false (by rw [e59]; omega)) ?_
      refine go ?_
      refine K_condF rfl (by simpa using h3) ?_
      refine go ?_
      refine J_draw [_] [] (by kernel_rfl) (by kernel_rfl) rfl ?_
      refine gd ?_
      refine T_opD rfl rfl rfl rfl rfl (opr_call0P rfl rfl c2 rfl rfl rfl) rfl ?_
      refine gd ?_
      refine T_opD rfl rfl rfl rfl rfl (opr_cat rfl rfl rfl (by rw [List.length_replicate]; omega)) rfl ?_
      refine gd ?_
      refine go ?_
      rw [hd]
      rw [List.drop_of_length_le (by omega)] at c3
      refine K_condF rfl (decide_eq_false (by rw [e59]; omega)) ?_
      refine go ?_
      refine K_op rfl rfl (opr_cut_str (i := 0) (j := o) hT rfl rfl rfl rfl rfl (by omega) (by omega) (by omega)) rfl ?_
      rw [ebeg]
      refine go ?_
      refine K_op rfl rfl (opr_cat rfl rfl rfl (by simp; omega)) rfl ?_
      refine go ?_
      refine K_op rfl rfl (opr_cat rfl rfl rfl (by simp; omega)) rfl ?_
      refine go ?_
      refine K_op rfl rfl (opr_callP rfl rfl (c3) rfl rfl rfl rfl) rfl ?_
      refine go ?_
      exact J_done hT rfl rfl rfl
set_option maxHeartbeats 16000000 in
theorem rftrunc_spec (f : MF) (i z : Int) (hf : f.length ≤ 100000) (hb : ∀ x ∈ f, x.b.length ≤ 100000) (hz : -9223372036854775808 ≤ z ∧ z ≤ 9223372036854775807) :
    Con Tryz.prog 80 [fsA f, .p (.int .u32 i), .p (.int .i64 z)] [] (eT (f.ftrunc i z).1 (f.ftrunc i z).2) [] [] := by
  have c1 := rfile_spec f i hf
  have hm : ∀ x, f.file i = some x → x ∈ f := fun x h => (at_mem (file_at h).1).1
  unfold MF.ftrunc
  generalize f.file i = g at c1 hm
  cases g with
  | none =>
    change Con _ _ _ _ (.tup [nT0, .p (.int .i64 16)]) _ _ at c1
    refine con_of Tryz.func80 rfl (by kernel_rfl) rfl fun F w0 β0 => ?_
    refine K_tell rfl ?_
    refine go ?_
    refine K_op rfl rfl (opr_callP rfl rfl (c1) rfl rfl rfl rfl) rfl ?_
    refine go ?_
    refine J_drawS 3 (by kernel_rfl) (by kernel_rfl) ?_
    apply Exists.intro
    refine gdW ?_
    refine go ?_
    exact J_done hT rfl rfl rfl
  | some x =>
    change Con _ _ _ _ (.tup [nodT x, .p (.int .i64 0)]) _ _ at c1
    have hb := hb x (hm x rfl)
    dsimp only
    by_cases h1 : z < 0
    · rw [if_pos h1]
      refine con_of Tryz.func80 rfl (by kernel_rfl) rfl fun F w0 β0 => ?_
      refine K_tell rfl ?_
      refine go ?_
      refine K_op rfl rfl (opr_callP rfl rfl (c1) rfl rfl rfl rfl) rfl ?_
      refine go ?_
      refine K_condT rfl (decide_eq_true h1) ?_
      refine go ?_
      refine J_drawS 2 (by kernel_rfl) (by kernel_rfl) ?_
      apply Exists.intro
      refine gdW ?_
      refine go ?_
      exact J_done hT rfl rfl rfl
    rw [if_neg h1]
    by_cases h2 : z > 4096
    · rw [if_pos h2]
      refine con_of Tryz.func80 rfl (by kernel_rfl) rfl fun F w0 β0 => ?_
      refine K_tell rfl ?_
      refine go ?_
      refine K_op rfl rfl (opr_callP rfl rfl (c1) rfl rfl rfl rfl) rfl ?_
      refine go ?_
      refine K_condF rfl (decide_eq_false h1) ?_
      refine go ?_
      refine K_condT rfl (decide_eq_true h2) ?_
      refine go ?_
      refine J_drawS 2 (by kernel_rfl) (by kernel_rfl) ?_
      apply Exists.intro
      refine gdW ?_
      refine go ?_
      exact J_done hT rfl rfl rfl
    rw [if_neg h2]
    have c3 := rWith_spec f { x with b := trB x.b z.toNat } hf
    generalize f.with { x with b := trB x.b z.toNat } = f' at c3
    unfold trB at c3
    by_cases h3 : z.toNat ≤ x.b.length
    · rw [if_pos h3] at c3
      have ebeg : (x.b.drop (0 : Int).toNat).take (z.toNat - (0 : Int).toNat) = x.b.take z.toNat := rfl
      refine con_of Tryz.func80 rfl (by kernel_rfl) rfl fun F w0 β0 => ?_
      refine K_tell rfl ?_
      refine go ?_
      refine K_op rfl rfl (opr_callP rfl rfl (c1) rfl rfl rfl rfl) rfl ?_
      refine go ?_
      refine K_condF rfl (decide_eq_false h1) ?_
      refine go ?_
      refine K_condF rfl (decide_eq_false h2) ?_
      refine go ?_
      refine K_condT rfl (decide_eq_true (by omega)) ?_
      refine go ?_
      refine K_op rfl rfl (opr_cut_str (i := 0) (j := z) hT rfl rfl rfl rfl rfl (by omega) (by omega) (by omega)) rfl ?_
      rw [ebeg]
      refine go ?_
      refine K_op rfl rfl (opr_callP rfl rfl (c3) rfl rfl rfl rfl) rfl ?_
      refine go ?_
      exact J_done hT rfl rfl rfl
    · rw [if_neg h3] at c3
      have c2 := zeros_spec (z.toNat - x.b.length) (by omega)
      have e42 : IntKind.i64.wrap (z - (x.b.length : Int)) = ((z.toNat - x.b.length : Nat) : Int) := by
        rw [IntWalk.i64_in _ (by omega)]; omega
      rw [← e42] at c2
      refine con_of Tryz.func80 rfl (by kernel_rfl) rfl fun F w0 β0 => ?_
      refine K_tell rfl ?_
      refine go ?_
      refine K_op rfl rfl (opr_callP rfl rfl (c1) rfl rfl rfl rfl) rfl ?_
      refine go ?_
      refine K_condF rfl (decide_eq_false h1) ?_
      refine go ?_
      refine K_condF rfl (decide_eq_false h2) ?_
      refine go ?_
      refine K_condF rfl (decide_eq_false (by omega)) ?_
      refine go ?_
      refine J_drawS 10 (by kernel_rfl) (by kernel_rfl) ?_
      apply Exists.intro
      refine gdW ?_
      refine T_opD rfl rfl rfl rfl rfl (opr_call0P rfl rfl c2 rfl rfl rfl) rfl ?_
      refine gdW ?_
      refine T_opD rfl rfl rfl rfl rfl (opr_cat rfl rfl rfl (by rw [List.length_replicate]; omega)) rfl ?_
      refine gdW ?_
      refine go ?_
      refine K_op rfl rfl (opr_callP rfl rfl (c3) rfl rfl rfl rfl) rfl ?_
      refine go ?_
      exact J_done hT rfl rfl rfl
end Go.Proofs.YtfnpelogfcnanaaGreatDoor

/- flintlaw19: based, do. -/
-- @D
namespace Go.Proofs.YtfnpelogfcnanaaGreatDoor
set_option maxRecDepth 20000
open Go.Awp Tr
set_option maxHeartbeats 8000000 in
theorem based19_spec {s : VS} {n : Nat} (h : VJ s n) (hn : n ≤ 90000) : Con Tryz.prog 37 [vP] (vH s) (.ad (.l 0) 0) (vH (s.range [] [255])) (vN (VS.new (basedT s))) := by
  have c2 := (vrange_spec s [] [255] (by have := h.zs; unfold big40; omega) (by have := h.zg; unfold big40; omega)).toPs (.inl rfl)
  have hR : Rises (s.rangeR [] [255]) := by
    unfold VS.rangeR
    rw [if_pos (by decide), range_row _ _ _ h.rs]
    exact List.Pairwise.sublist List.filter_sublist h.rs
  have hcount := rangeR_len h [] [255]
  unfold basedT
  generalize s.rangeR [] [255] = R at c2 hR hcount
  generalize s.range [] [255] = s' at c2
  have hlk : (kvs R).length = R.length := by simp
  refine con_of Tryz.func37 rfl (by kernel_rfl) rfl fun F w0 β0 => ?_
  refine K_tell rfl ?_
  refine go ?_
  refine K_op rfl rfl (opr_callP rfl rfl (tnew_spec) rfl rfl rfl rfl) rfl ?_
  refine go ?_
  refine K_op rfl rfl (opr_callS [.o 0, .o 1] rfl rfl (c2) rfl rfl rfl ⟨⟨rfl, rfl⟩, ⟨rfl, rfl⟩, trivial⟩ rfl rfl rfl rfl) rfl ?_
  refine go ?_
  refine J_loop (fun q : Ix R.length => [(3, W ((R.take q.i).foldl putT .nil)), (8, .p (.ps (kvs R))), (9, .p (.int .i64 (R.length : Int))), (10, .p (.int .i64 (q.i : Int)))]) (fun _ => vH s') (fun q => []) (fun q => R.length - q.i) ⟨0, by omega⟩ ⟨rfl, rfl, (by rw [← hlk]; rfl), rfl, trivial⟩ rfl rfl (fun q => ?_)
  have hi := q.h
  have hsz := foldT_size (R.take q.i) (List.Pairwise.sublist (List.take_sublist _ _) hR)
  refine go ?_
  by_cases h : q.i < R.length
  · have hx : R[q.i]? = some R[q.i] := List.getElem?_eq_getElem h
    generalize R[q.i] = x at hx
    have hxk : (kvs R)[((q.i : Nat) : Int).toNat]? = some (kvV x) := kvs_get hx
    have e2 := putT_take hx
    have c3 := tset_spec x.1 x.2 ((R.take q.i).foldl putT .nil) (by rw [hsz, List.length_take]; unfold big40; omega)
    change Con Tryz.prog _ _ _ (W (putT ((R.take q.i).foldl putT .nil) x)) _ _ at c3
    rw [e2] at c3
    refine K_condT rfl (decide_eq_true (by omega)) ?_
    refine go ?_
    refine K_op rfl rfl (opr_index hT rfl rfl rfl rfl rfl (.ps _) (by omega) (by rw [hlk]; omega)) rfl ?_
    refine go ?_
    refine K_op rfl rfl (opr_load_el hT rfl rfl (.ps _) hxk rfl rfl) rfl ?_
    refine go ?_
    refine K_op rfl rfl (opr_callP rfl rfl (c3) rfl rfl rfl rfl) rfl ?_
    refine go ?_
    refine J_take 0 [(3, W ((R.take (q.i + 1)).foldl putT .nil)), (8, .p (.ps (kvs R))), (9, .p (.int .i64 (R.length : Int))), (10, .p (.int .i64 (IntKind.i64.wrap ((q.i : Int) + 1))))] ⟨rfl, rfl, rfl, rfl, trivial⟩ rfl rfl ?_
    refine J_again ⟨q.i + 1, by omega⟩ (by show R.length - (q.i + 1) < R.length - q.i; omega) ⟨rfl, rfl, rfl, congrArg (fun z => TV.p (.int .i64 z)) (by rw [IntWalk.i64_in _ (by omega)]; rfl), trivial⟩ rfl rfl
  have e : q.i = R.length := by omega
  rw [e, List.take_length]
  refine K_condF rfl (decide_eq_false (by omega)) ?_
  refine go ?_
  refine K_op rfl rfl (opr_callP rfl rfl (vnew_spec (R.foldl putT .nil)) rfl rfl rfl rfl) rfl ?_
  refine go ?_
  exact J_give hT rfl rfl
/-- An operation of layer 19. -/
structure FOp where
  kind : Int
  ino : Int
  from_ : Int
  n : Int
  a : AV
  b : List UInt8
def fopV (o : FOp) : AV := .agg [.int .i64 o.kind, .int .u32 o.ino, .int .i64 o.from_, .int .i64 o.n, o.a]
structure FOp.ok (o : FOp) : Prop where
  bs : Bs o.a o.b
  u : U32 o.ino
  f : -9223372036854775808 ≤ o.from_ ∧ o.from_ ≤ 9223372036854775807
  n : -9223372036854775808 ≤ o.n ∧ o.n ≤ 9223372036854775807
  l : o.b.length ≤ 140737488351232
/-- An operation in a view, and of the model. -/
def do19 (s : VS) (m : MF) (o : FOp) : (Int × VS) × (Int × MF) :=
  if o.kind = 1 then (s.fwrite o.ino o.from_ o.b, m.fwrite o.ino o.from_ o.b) else if o.kind = 2 then (s.ftrunc o.ino o.n, m.ftrunc o.ino o.n) else ((0, s), (0, m))
def doT19 (s : VS) (m : MF) (o : FOp) : (Bool × MF × Bool) × VS :=
  if o.kind = 0 then ((decide ((s.fread o.ino o.from_ o.n).1.1 = (m.fread o.ino o.from_ o.n).1) && decide ((s.fread o.ino o.from_ o.n).1.2 = (m.fread o.ino o.from_ o.n).2), m, false), (s.fread o.ino o.from_ o.n).2)
  else if (do19 s m o).1.1 = 21 then ((true, m, true), (do19 s m o).1.2) else ((decide ((do19 s m o).1.1 = (do19 s m o).2.1), (do19 s m o).2.2, false), (do19 s m o).1.2)
theorem bytA_bs {s : VS} {i o n : Int} : Bs (bytA (s.fread i o n).1) (s.fread i o n).1.1 := by
  unfold VS.fread bytA
  split
  · exact .nils
  · split
    · exact .nils
    · exact .ps _
set_option maxHeartbeats 16000000 in
theorem do19_read {s : VS} {m : Nat} (h : VJ s m) (hm : m ≤ 90000) {f : MF} (hf : f.length ≤ 100000) (hb : ∀ x ∈ f, x.b.length ≤ 100000) (o : FOp) (ho : o.ok) (hk : o.kind = 0) :
    Con Tryz.prog 35 [vP, fsA f, .p (fopV o)] (vH s) (.tup [.p (.bool (doT19 s f o).1.1), fsT (doT19 s f o).1.2.1, .p (.bool (doT19 s f o).1.2.2)]) (vH (doT19 s f o).2) [] := by
  unfold doT19
  rw [if_pos hk]
  dsimp only
  have c1 := fread_spec h (by omega) o.ino ho.u o.from_ o.n ho.f ho.n
  have c2 := rfread_spec f o.ino o.from_ o.n hf hb ho.n
  have hbs := @bytA_bs s o.ino o.from_ o.n
  obtain ⟨k, i, fr, n, a, b⟩ := o
  dsimp only at hk c1 c2 hbs ⊢
  unfold fopV
  subst hk
  generalize s.fread i fr n = q at c1 hbs
  generalize f.fread i fr n = r at c2
  obtain ⟨⟨x, e⟩, s1⟩ := q
  obtain ⟨y, g⟩ := r
  dsimp only at c1 c2 hbs ⊢
  generalize bytA (x, e) = z at c1 hbs
  have hrd : ∀ H L, Rd H L (.p z) (bv x) := fun H L => hbs.rd
  by_cases hxy : x = y
  · skip
    refine con_of Tryz.func35 rfl (by kernel_rfl) rfl fun F w0 β0 => ?_
    refine K_tell rfl ?_
    refine go ?_
    refine K_op rfl rfl (opr_callS [.o 0, .o 1] rfl rfl (c1) rfl rfl rfl ⟨⟨rfl, rfl⟩, ⟨rfl, rfl⟩, trivial⟩ rfl rfl rfl rfl) rfl ?_
    refine go ?_
    refine K_op rfl rfl (opr_callP rfl rfl (c2) rfl rfl rfl rfl) rfl ?_
    refine go ?_
    refine J_drawS 11 (by kernel_rfl) (by kernel_rfl) ?_
    apply Exists.intro
    refine gdW ?_
    refine T_opD rfl rfl rfl rfl rfl (opr_to_str hT rfl rfl rfl rfl rfl (hrd _ _)) rfl ?_
    refine T_opD rfl rfl rfl rfl rfl (stepN_ok hT rfl) rfl ?_
    refine T_opD rfl rfl rfl rfl rfl (opr_at (stepN_ok hT rfl) (show TV.p (.bool (x == y)) = .p (.bool true) by rw [hxy]; simp)) rfl ?_
    refine gdW ?_
    refine go ?_
    have e1 : (decide (x = y) && decide (e = g)) = (e == g) := by rw [decide_eq_true hxy, Bool.true_and]; by_cases h : e = g <;> simp [h]
    rw [e1]
    exact J_done hT rfl rfl rfl
  · skip
    refine con_of Tryz.func35 rfl (by kernel_rfl) rfl fun F w0 β0 => ?_
    refine K_tell rfl ?_
    refine go ?_
    refine K_op rfl rfl (opr_callS [.o 0, .o 1] rfl rfl (c1) rfl rfl rfl ⟨⟨rfl, rfl⟩, ⟨rfl, rfl⟩, trivial⟩ rfl rfl rfl rfl) rfl ?_
    refine go ?_
    refine K_op rfl rfl (opr_callP rfl rfl (c2) rfl rfl rfl rfl) rfl ?_
    refine go ?_
    refine J_drawS 11 (by kernel_rfl) (by kernel_rfl) ?_
    apply Exists.intro
    refine gdW ?_
    refine T_opD rfl rfl rfl rfl rfl (opr_to_str hT rfl rfl rfl rfl rfl (hrd _ _)) rfl ?_
    refine T_opD rfl rfl rfl rfl rfl (stepN_ok hT rfl) rfl ?_
    refine T_opD rfl rfl rfl rfl rfl (opr_at (stepN_ok hT rfl) (show TV.p (.bool (x == y)) = .p (.bool false) by simp [hxy])) rfl ?_
    refine gdW ?_
    refine go ?_
    have e1 : (decide (x = y) && decide (e = g)) = false := by rw [decide_eq_false hxy]; rfl
    rw [e1]
    exact J_done hT rfl rfl rfl
set_option maxHeartbeats 16000000 in
theorem do19_write {s : VS} {m : Nat} (h : VJ s m) (hm : m ≤ 90000) {f : MF} (hf : f.length ≤ 100000) (hb : ∀ x ∈ f, x.b.length ≤ 100000) (o : FOp) (ho : o.ok) (hk : o.kind = 1) :
    Con Tryz.prog 35 [vP, fsA f, .p (fopV o)] (vH s) (.tup [.p (.bool (doT19 s f o).1.1), fsT (doT19 s f o).1.2.1, .p (.bool (doT19 s f o).1.2.2)]) (vH (doT19 s f o).2) [] := by
  have e : do19 s f o = (s.fwrite o.ino o.from_ o.b, f.fwrite o.ino o.from_ o.b) := by unfold do19; rw [if_pos hk]
  unfold doT19
  rw [if_neg (by omega), e]
  dsimp only
  have hl := ho.l
  have c1 := fwrite_own h (by omega) o.ino ho.u o.from_ ho.f o.b (by omega)
  have c2 := rfwrite_spec f o.ino o.from_ o.b hf hb ho.f (by omega)
  have hbs := ho.bs
  obtain ⟨k, i, fr, n, a, b⟩ := o
  dsimp only at hk c1 c2 hbs hl ⊢
  unfold fopV
  subst hk
  generalize s.fwrite i fr b = q at c1
  generalize f.fwrite i fr b = r at c2
  obtain ⟨e, s1⟩ := q
  obtain ⟨g, f1⟩ := r
  dsimp only at c1 c2 ⊢
  have hrd : ∀ H L, Rd H L (.p a) (bv b) := fun H L => hbs.rd
  refine con_of Tryz.func35 rfl (by kernel_rfl) rfl fun F w0 β0 => ?_
  refine K_tell rfl ?_
  refine go ?_
  refine K_op rfl rfl (opr_app_lz (rows := bv b) hT rfl rfl (.inr rfl) rfl rfl (.rd (hrd _ _)) hbs.not (bv_cl b) (bv_size b) (by decide) (by decide) (by rw [bv_length]; show b.length * 1 ≤ _; omega)) rfl ?_
  rw [bv_length]
  refine go ?_
  refine K_op rfl rfl (opr_callS [.o 0, .o 1, .l 4] rfl rfl (c1) rfl rfl rfl ⟨⟨rfl, rfl⟩, ⟨rfl, rfl⟩, ⟨rfl, rfl⟩, trivial⟩ rfl rfl rfl rfl) rfl ?_
  refine go ?_
  refine K_op rfl rfl (opr_clear hT rfl rfl rfl rfl rfl rfl (bv_length b)) rfl ?_
  refine go ?_
  refine K_op rfl rfl (opr_to_str hT rfl rfl rfl rfl rfl (hrd _ _)) rfl ?_
  refine go ?_
  refine K_op rfl rfl (opr_callP rfl rfl (c2) rfl rfl rfl rfl) rfl ?_
  refine go ?_
  by_cases he : e = 21
  · rw [if_pos he]
    refine K_condT rfl (by simp [he]) ?_
    refine go ?_
    refine J_drawS 2 (by kernel_rfl) (by kernel_rfl) ?_
    apply Exists.intro
    refine gdW ?_
    refine go ?_
    exact J_done hT rfl rfl rfl
  · rw [if_neg he]
    refine K_condF rfl (by simp [he]) ?_
    refine go ?_
    refine J_drawS 5 (by kernel_rfl) (by kernel_rfl) ?_
    apply Exists.intro
    refine gdW ?_
    refine go ?_
    exact J_done hT rfl rfl rfl
set_option maxHeartbeats 16000000 in
theorem do19_trunc {s : VS} {m : Nat} (h : VJ s m) (hm : m ≤ 90000) {f : MF} (hf : f.length ≤ 100000) (hb : ∀ x ∈ f, x.b.length ≤ 100000) (o : FOp) (ho : o.ok) (hk : o.kind = 2) :
    Con Tryz.prog 35 [vP, fsA f, .p (fopV o)] (vH s) (.tup [.p (.bool (doT19 s f o).1.1), fsT (doT19 s f o).1.2.1, .p (.bool (doT19 s f o).1.2.2)]) (vH (doT19 s f o).2) [] := by
  have e : do19 s f o = (s.ftrunc o.ino o.n, f.ftrunc o.ino o.n) := by unfold do19; rw [if_neg (by omega), if_pos hk]
  unfold doT19
  rw [if_neg (by omega), e]
  dsimp only
  have c1 := ftrunc_spec h (by omega) o.ino ho.u o.n ho.n
  have c2 := rftrunc_spec f o.ino o.n hf hb ho.n
  obtain ⟨k, i, fr, n, a, b⟩ := o
  dsimp only at hk c1 c2 ⊢
  unfold fopV
  subst hk
  generalize s.ftrunc i n = q at c1
  generalize f.ftrunc i n = r at c2
  obtain ⟨e, s1⟩ := q
  obtain ⟨g, f1⟩ := r
  dsimp only at c1 c2 ⊢
  refine con_of Tryz.func35 rfl (by kernel_rfl) rfl fun F w0 β0 => ?_
  refine K_tell rfl ?_
  refine go ?_
  refine K_op rfl rfl (opr_callS [.o 0, .o 1] rfl rfl (c1) rfl rfl rfl ⟨⟨rfl, rfl⟩, ⟨rfl, rfl⟩, trivial⟩ rfl rfl rfl rfl) rfl ?_
  refine go ?_
  refine K_op rfl rfl (opr_callP rfl rfl (c2) rfl rfl rfl rfl) rfl ?_
  refine go ?_
  by_cases he : e = 21
  · rw [if_pos he]
    refine K_condT rfl (by simp [he]) ?_
    refine go ?_
    refine J_drawS 2 (by kernel_rfl) (by kernel_rfl) ?_
    apply Exists.intro
    refine gdW ?_
    refine go ?_
    exact J_done hT rfl rfl rfl
  · rw [if_neg he]
    refine K_condF rfl (by simp [he]) ?_
    refine go ?_
    refine J_drawS 5 (by kernel_rfl) (by kernel_rfl) ?_
    apply Exists.intro
    refine gdW ?_
    refine go ?_
    exact J_done hT rfl rfl rfl
set_option maxHeartbeats 16000000 in
theorem do19_none (s : VS) (f : MF) (o : FOp) (h0 : o.kind ≠ 0) (h1 : o.kind ≠ 1) (h2 : o.kind ≠ 2) :
    Con Tryz.prog 35 [vP, fsA f, .p (fopV o)] (vH s) (.tup [.p (.bool (doT19 s f o).1.1), fsT (doT19 s f o).1.2.1, .p (.bool (doT19 s f o).1.2.2)]) (vH (doT19 s f o).2) [] := by
  have e : doT19 s f o = ((true, f, false), s) := by
    unfold doT19 do19
    rw [if_neg h0, if_neg h1, if_neg h2, if_neg (show ¬ (((0 : Int), s), (0 : Int), f).1.1 = 21 from (by decide : ¬ (0 : Int) = 21))]; rfl
  rw [e]
  obtain ⟨k, i, fr, n, a, b⟩ := o
  dsimp only at h0 h1 h2 ⊢
  unfold fopV
  refine con_of Tryz.func35 rfl (by kernel_rfl) rfl fun F w0 β0 => ?_
  refine K_tell rfl ?_
  refine go ?_
  refine K_condF rfl (by simp [h0]) ?_
  refine go ?_
  refine K_condF rfl (by simp [h1]) ?_
  refine go ?_
  refine K_condF rfl (by simp [h2]) ?_
  refine go ?_
  refine J_drawS 5 (by kernel_rfl) (by kernel_rfl) ?_
  apply Exists.intro
  refine gdW ?_
  refine go ?_
  exact J_done hT rfl rfl rfl
theorem do19_spec {s : VS} {m : Nat} (h : VJ s m) (hm : m ≤ 90000) {f : MF} (hf : f.length ≤ 100000) (hb : ∀ x ∈ f, x.b.length ≤ 100000) (o : FOp) (ho : o.ok) :
    Con Tryz.prog 35 [vP, fsA f, .p (fopV o)] (vH s) (.tup [.p (.bool (doT19 s f o).1.1), fsT (doT19 s f o).1.2.1, .p (.bool (doT19 s f o).1.2.2)]) (vH (doT19 s f o).2) [] := by
  by_cases h0 : o.kind = 0
  · exact do19_read h hm hf hb o ho h0
  by_cases h1 : o.kind = 1
  · exact do19_write h hm hf hb o ho h1
  by_cases h2 : o.kind = 2
  · exact do19_trunc h hm hf hb o ho h2
  exact do19_none s f o h0 h1 h2
end Go.Proofs.YtfnpelogfcnanaaGreatDoor

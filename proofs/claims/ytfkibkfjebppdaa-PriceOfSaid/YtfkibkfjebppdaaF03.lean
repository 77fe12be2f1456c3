/- pack: wide, own, Put. -/
import Derived.Test.YtfkibkfjebppdaaGo
import Derived.Test.YtfkibkfjebppdaaRows
-- @N
import Derived.Test.YtfkibkfjebppdaaTab
import Derived.IntWalk
namespace Go.Proofs.Ytfkibkfjebppdaa
open Go.Awp
def big : Nat := 140737488355000
/-- Bytes that come in. -/
inductive Bs : AV → List UInt8 → Prop
  | ps (l) : Bs (.ps (bv l)) l
  | nils : Bs .nils []
  | cz : Bs .cz []
theorem Bs.rd {s : AV} {l : List UInt8} {H L : List AObj} (h : Bs s l) : Rd H L (.p s) (bv l) := by
  cases h with
  | ps => exact .ps _
  | nils => exact .nils
  | cz => exact .cz
theorem Bs.not {s : AV} {l : List UInt8} (h : Bs s l) : false = true ↔ ∃ m, TV.p s = .p (.str m) := by
  cases h <;> simp
theorem Bs.ext {s : AV} : TV.ext.extL [.p s] = true := rfl
def wide (n : Int) : Int := min (max n 1) 8
theorem wide_spec (n : Int) (H : List AObj) : Con Try.prog 53 [.p (.int .i64 n)] H (.p (.int .i64 (wide n))) H [] := by
  have e : mmA .min (mmA .max n 1) 8 = wide n := by unfold mmA wide; simp only []; omega
  refine con_of Try.func53 rfl (by kernel_rfl) rfl fun F w0 β0 => ?_
  refine goN ?_
  rw [← e]
  exact J_done hT rfl rfl rfl
set_option maxHeartbeats 4000000 in
theorem own_spec {s : AV} {l : List UInt8} (hs : Bs s l) (n : Nat) (hl : l.length + n ≤ 140737488355328) (H : List AObj) :
    Con Try.prog 55 [.p s, .p (.int .i64 n)] H (.sl (.l 0) (l.length + n) 0 (l.length + n)) H [.arr 5 true 1 (bv (l ++ List.replicate n 0))] := by
  refine con_of Try.func55 rfl (by kernel_rfl) rfl fun F w0 β0 => ?_
  refine goN ?_
  refine J_op rfl rfl (opr_len_rd hT rfl rfl hs.rd) ?_
  rw [bv_length]
  refine goN ?_
  have e9 : IntKind.i64.wrap ((l.length : Int) + (n : Int)) = ((l.length + n : Nat) : Int) := by rw [IntWalk.i64_in _ (by omega)]; rfl
  refine J_val 9 (.p (.int .i64 ((l.length + n : Nat) : Int))) rfl (congrArg (fun z => TV.p (.int .i64 z)) e9) ?_
  refine J_op rfl rfl (opr_make hT rfl rfl rfl rfl rfl rfl rfl rfl rfl (by show _ * 1 ≤ _; omega)) ?_
  refine goN ?_
  refine J_op rfl rfl (opr_copy hT rfl rfl rfl rfl (by simp) rfl (.rd hs.rd) hs.not (bv_cl l) (bv_size l) (by simp) (.inr (.inl rfl))) ?_
  refine goN ?_
  have e : (List.replicate (l.length + n) (zrow ⟨.int .u8, 1, 1, [.int .u8 0]⟩)).take 0 ++ bv l ++ (List.replicate (l.length + n) (zrow ⟨.int .u8, 1, 1, [.int .u8 0]⟩)).drop (0 + (bv l).length) = bv (l ++ List.replicate n 0) := by
    rw [bv_append, bv_replicate, List.take_zero, List.nil_append, Nat.zero_add, bv_length, List.drop_replicate, Nat.add_sub_cancel_left]
    rfl
  rw [← e]
  exact J_give hT rfl rfl
end Go.Proofs.Ytfkibkfjebppdaa

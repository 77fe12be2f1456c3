/- The types of this seat's program as a table, by a program of this session (mktab.py); that it is so is checked. -/
import Derived.Test.YtfkibkfjebppdaaProg
import Derived.Test.YtfkibkfjebppdaaAw1
import Derived.KernelRfl
namespace Go.Awp
def tab : Tab := [
  (2, ⟨.int .i64, 1, 8, [.int .i64 0]⟩),
  (3, ⟨.int .i64, 1, 8, [.int .i64 0]⟩),
  (4, ⟨.bool, 1, 1, [.bool false]⟩),
  (5, ⟨.int .u8, 1, 1, [.int .u8 0]⟩),
  (7, ⟨.struct [(0, 2), (1, 3), (2, 4), (3, 6)], 4, 24, [.int .i64 0, .int .i64 0, .bool false, .int .u8 0]⟩),
  (9, ⟨.str, 1, 16, [.str []]⟩),
  (12, ⟨.int .u64, 1, 8, [.int .u64 0]⟩),
  (13, ⟨.struct [(0, 9), (1, 12)], 2, 24, [.str [], .int .u64 0]⟩),
  (17, ⟨.ptr, 1, 8, [.nilp]⟩),
  (18, ⟨.struct [(0, 17)], 1, 8, [.nilp]⟩),
  (21, ⟨.int .i32, 1, 4, [.int .i32 0]⟩),
  (22, ⟨.slice 25, 1, 24, [.nils]⟩),
  (25, ⟨.array 3 3, 3, 24, [.int .i64 0, .int .i64 0, .int .i64 0]⟩),
  (29, ⟨.int .u32, 1, 4, [.int .u32 0]⟩),
  (30, ⟨.struct [(0, 5), (1, 29), (2, 29), (3, 29)], 4, 16, [.int .u8 0, .int .u32 0, .int .u32 0, .int .u32 0]⟩),
  (31, ⟨.struct [(0, 5), (1, 29), (2, 29), (3, 29)], 4, 16, [.int .u8 0, .int .u32 0, .int .u32 0, .int .u32 0]⟩),
  (40, ⟨.slice 5, 1, 24, [.nils]⟩),
  (41, ⟨.int .u64, 1, 8, [.int .u64 0]⟩),
  (42, ⟨.int .i64, 1, 8, [.int .i64 0]⟩),
  (70, ⟨.array 3 29, 3, 12, [.int .u32 0, .int .u32 0, .int .u32 0]⟩),
  (71, ⟨.int .u64, 1, 8, [.int .u64 0]⟩),
  (78, ⟨.struct [(0, 17), (1, 17), (2, 17), (3, 9)], 4, 40, [.nilp, .nilp, .nilp, .str []]⟩),
  (81, ⟨.struct [(0, 80)], 0, 0, []⟩),
  (86, ⟨.ptr, 1, 8, [.nilp]⟩),
  (89, ⟨.struct [(0, 12), (1, 12), (2, 29), (3, 83), (4, 5), (5, 5), (6, 84), (7, 85), (8, 86), (9, 87), (10, 88)], 11, 48, [.int .u64 0, .int .u64 0, .int .u32 0, .int .u8 0, .int .u8 0, .int .u8 0, .int .u8 0, .top, .nilp, .int .i32 0, .int .i32 0]⟩)]
theorem tabChk : chkTab Go.Proofs.Try.prog tab = true := by kernel_rfl
theorem hT : TabOk Go.Proofs.Try.prog tab := tabOk tabChk
end Go.Awp

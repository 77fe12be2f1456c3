/- The types of this seat's program as a table, by a program of this session (mktab.py); that it is so is checked. -/
import Derived.Test.YtjibchohkeljkaaProg
import Derived.Test.YtjibchohkeljkaaAw1
import Derived.KernelRfl
namespace Go.Awp
def tab : Tab := [
  (2, ⟨.int .i64, 1, 8, [.int .i64 0]⟩),
  (3, ⟨.int .i64, 1, 8, [.int .i64 0]⟩),
  (4, ⟨.bool, 1, 1, [.bool false]⟩),
  (5, ⟨.int .u8, 1, 1, [.int .u8 0]⟩),
  (7, ⟨.struct [(0, 2), (1, 3), (2, 4), (3, 6)], 4, 24, [.int .i64 0, .int .i64 0, .bool false, .int .u8 0]⟩),
  (9, ⟨.str, 1, 16, [.str []]⟩),
  (12, ⟨.int .u64, 1, 8, [.int .u64 0]⟩),
  (13, ⟨.struct [(0, 9), (1, 12)], 2, 24, [.str [], .int .u64 0]⟩),
  (17, ⟨.ptr, 1, 8, [.nilp]⟩),
  (18, ⟨.struct [(0, 17)], 1, 8, [.nilp]⟩),
  (21, ⟨.int .i32, 1, 4, [.int .i32 0]⟩),
  (22, ⟨.struct [(0, 3), (1, 3)], 2, 16, [.int .i64 0, .int .i64 0]⟩),
  (23, ⟨.struct [(0, 3), (1, 3)], 2, 16, [.int .i64 0, .int .i64 0]⟩),
  (24, ⟨.slice 53, 1, 24, [.nils]⟩),
  (25, ⟨.slice 35, 1, 24, [.nils]⟩),
  (29, ⟨.ptr, 1, 8, [.nilp]⟩),
  (34, ⟨.struct [(0, 9), (1, 9), (2, 4)], 3, 40, [.str [], .str [], .bool false]⟩),
  (35, ⟨.struct [(0, 9), (1, 9), (2, 4)], 3, 40, [.str [], .str [], .bool false]⟩),
  (46, ⟨.int .u32, 1, 4, [.int .u32 0]⟩),
  (49, ⟨.struct [(0, 5), (1, 46), (2, 46), (3, 46)], 4, 16, [.int .u8 0, .int .u32 0, .int .u32 0, .int .u32 0]⟩),
  (50, ⟨.struct [(0, 5), (1, 46), (2, 46), (3, 46)], 4, 16, [.int .u8 0, .int .u32 0, .int .u32 0, .int .u32 0]⟩),
  (53, ⟨.array 2 9, 2, 32, [.str [], .str []]⟩),
  (56, ⟨.slice 70, 1, 24, [.nils]⟩),
  (58, ⟨.slice 3, 1, 24, [.nils]⟩),
  (60, ⟨.struct [(0, 9), (1, 9), (2, 29), (3, 29), (4, 3), (5, 3)], 6, 64, [.str [], .str [], .nilp, .nilp, .int .i64 0, .int .i64 0]⟩),
  (61, ⟨.struct [(0, 9), (1, 9), (2, 29), (3, 29), (4, 3), (5, 3)], 6, 64, [.str [], .str [], .nilp, .nilp, .int .i64 0, .int .i64 0]⟩),
  (62, ⟨.slice 5, 1, 24, [.nils]⟩),
  (63, ⟨.int .u64, 1, 8, [.int .u64 0]⟩),
  (64, ⟨.int .i64, 1, 8, [.int .i64 0]⟩),
  (67, ⟨.array 3 46, 3, 12, [.int .u32 0, .int .u32 0, .int .u32 0]⟩),
  (70, ⟨.array 3 3, 3, 24, [.int .i64 0, .int .i64 0, .int .i64 0]⟩),
  (71, ⟨.int .u64, 1, 8, [.int .u64 0]⟩),
  (73, ⟨.struct [(0, 17), (1, 17), (2, 17), (3, 9)], 4, 40, [.nilp, .nilp, .nilp, .str []]⟩),
  (76, ⟨.struct [(0, 75)], 0, 0, []⟩),
  (81, ⟨.ptr, 1, 8, [.nilp]⟩),
  (84, ⟨.struct [(0, 12), (1, 12), (2, 46), (3, 78), (4, 5), (5, 5), (6, 79), (7, 80), (8, 81), (9, 82), (10, 83)], 11, 48, [.int .u64 0, .int .u64 0, .int .u32 0, .int .u8 0, .int .u8 0, .int .u8 0, .int .u8 0, .top, .nilp, .int .i32 0, .int .i32 0]⟩)]
theorem tabChk : chkTab Go.Proofs.Try.prog tab = true := by kernel_rfl
theorem hT : TabOk Go.Proofs.Try.prog tab := tabOk tabChk
end Go.Awp

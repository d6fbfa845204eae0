/- The types of this seat. -/
import Derived.Test.YtgebfcdcpmmgnaaVsN
import Derived.Test.YtgebfcdcpmmgnaaProg
namespace Go.Proofs.Ytgebfcdcpmmgnaa.Vs
set_option maxRecDepth 100000 in
def tabs : Tb Try.prog where
  tys := [⟨.un, 0, []⟩,
  ⟨.fn, 1, [.nilf]⟩,
  ⟨.int .i64, 1, [.int .i64 0]⟩,
  ⟨.int .i64, 1, [.int .i64 0]⟩,
  ⟨.bool, 1, [.bool false]⟩,
  ⟨.int .u8, 1, [.int .u8 0]⟩,
  ⟨.int .u8, 1, [.int .u8 0]⟩,
  ⟨.st [(0, 1, false), (1, 1, false), (2, 1, false), (3, 1, false)], 4, [.int .i64 0, .int .i64 0, .bool false, .int .u8 0]⟩,
  ⟨.st [(0, 1, false), (1, 1, false), (2, 1, false), (3, 1, false)], 4, [.int .i64 0, .int .i64 0, .bool false, .int .u8 0]⟩,
  ⟨.str, 1, [.str []]⟩,
  ⟨.str, 1, [.str []]⟩,
  ⟨.str, 1, [.str []]⟩,
  ⟨.int .u64, 1, [.int .u64 0]⟩,
  ⟨.st [(0, 1, false), (1, 1, false)], 2, [.str [], .int .u64 0]⟩,
  ⟨.st [(0, 1, false), (1, 1, false)], 2, [.str [], .int .u64 0]⟩,
  ⟨.ptr, 1, [.nilp]⟩,
  ⟨.ptr, 1, [.nilp]⟩,
  ⟨.ptr, 1, [.nilp]⟩,
  ⟨.st [(0, 1, false)], 1, [.nilp]⟩,
  ⟨.st [(0, 1, false)], 1, [.nilp]⟩,
  ⟨.ifc, 1, [.nili]⟩,
  ⟨.int .i32, 1, [.int .i32 0]⟩,
  ⟨.sl 5 1 1, 1, [.sl 1 []]⟩,
  ⟨.int .u32, 1, [.int .u32 0]⟩,
  ⟨.fn, 1, [.nilf]⟩,
  ⟨.sl 35 4 40, 1, [.sl 4 []]⟩,
  ⟨.int .i64, 1, [.int .i64 0]⟩,
  ⟨.un, 0, []⟩,
  ⟨.fn, 1, [.nilf]⟩,
  ⟨.sl 33 4 40, 1, [.sl 4 []]⟩,
  ⟨.fn, 1, [.nilf]⟩,
  ⟨.fn, 1, [.nilf]⟩,
  ⟨.st [(0, 1, false), (1, 1, false), (2, 1, false), (3, 1, false)], 4, [.int .u32 0, .int .u32 0, .int .i64 0, .sl 1 []]⟩,
  ⟨.st [(0, 1, false), (1, 1, false), (2, 1, false), (3, 1, false)], 4, [.int .u32 0, .int .u32 0, .int .i64 0, .sl 1 []]⟩,
  ⟨.fn, 1, [.nilf]⟩,
  ⟨.st [(0, 1, false), (1, 1, false), (2, 1, false), (3, 1, false)], 4, [.int .u32 0, .int .u32 0, .int .i64 0, .sl 1 []]⟩,
  ⟨.fn, 1, [.nilf]⟩,
  ⟨.sl 22 1 24, 1, [.sl 1 []]⟩,
  ⟨.un, 0, []⟩,
  ⟨.fn, 1, [.nilf]⟩,
  ⟨.fn, 1, [.nilf]⟩,
  ⟨.fn, 1, [.nilf]⟩,
  ⟨.sl 46 4 48, 1, [.sl 4 []]⟩,
  ⟨.un, 0, []⟩,
  ⟨.fn, 1, [.nilf]⟩,
  ⟨.st [(0, 1, false), (1, 1, false), (2, 1, false), (3, 1, false)], 4, [.int .i64 0, .int .i64 0, .int .i64 0, .sl 1 []]⟩,
  ⟨.st [(0, 1, false), (1, 1, false), (2, 1, false), (3, 1, false)], 4, [.int .i64 0, .int .i64 0, .int .i64 0, .sl 1 []]⟩,
  ⟨.fn, 1, [.nilf]⟩,
  ⟨.sl 9 1 16, 1, [.sl 1 []]⟩,
  ⟨.fn, 1, [.nilf]⟩,
  ⟨.un, 0, []⟩,
  ⟨.fn, 1, [.nilf]⟩,
  ⟨.un, 0, []⟩,
  ⟨.fn, 1, [.nilf]⟩,
  ⟨.un, 0, []⟩,
  ⟨.fn, 1, [.nilf]⟩,
  ⟨.un, 0, []⟩,
  ⟨.fn, 1, [.nilf]⟩,
  ⟨.fn, 1, [.nilf]⟩,
  ⟨.sl 66 9 120, 1, [.sl 9 []]⟩,
  ⟨.st [(0, 1, false), (1, 1, false)], 2, [.int .i64 0, .sl 9 []]⟩,
  ⟨.st [(0, 1, false), (1, 1, false)], 2, [.int .i64 0, .sl 9 []]⟩,
  ⟨.un, 0, []⟩,
  ⟨.fn, 1, [.nilf]⟩,
  ⟨.sl 130 4 64, 1, [.sl 4 []]⟩,
  ⟨.st [(0, 1, false), (1, 1, false), (2, 1, false), (3, 1, false), (4, 1, false), (5, 1, false), (6, 1, false), (7, 1, false), (8, 1, false)], 9, [.int .i64 0, .str [], .int .i64 0, .bool false, .sl 1 [], .sl 4 [], .int .i64 0, .int .i64 0, .str []]⟩,
  ⟨.st [(0, 1, false), (1, 1, false), (2, 1, false), (3, 1, false), (4, 1, false), (5, 1, false), (6, 1, false), (7, 1, false), (8, 1, false)], 9, [.int .i64 0, .str [], .int .i64 0, .bool false, .sl 1 [], .sl 4 [], .int .i64 0, .int .i64 0, .str []]⟩,
  ⟨.sl 138 3 40, 1, [.sl 3 []]⟩,
  ⟨.fn, 1, [.nilf]⟩,
  ⟨.sl 81 5 56, 1, [.sl 5 []]⟩,
  ⟨.un, 0, []⟩,
  ⟨.fn, 1, [.nilf]⟩,
  ⟨.sl 86 5 56, 1, [.sl 5 []]⟩,
  ⟨.un, 0, []⟩,
  ⟨.fn, 1, [.nilf]⟩,
  ⟨.sl 149 3 40, 1, [.sl 3 []]⟩,
  ⟨.fn, 1, [.nilf]⟩,
  ⟨.fn, 1, [.nilf]⟩,
  ⟨.fn, 1, [.nilf]⟩,
  ⟨.sl 151 2 2, 1, [.sl 2 []]⟩,
  ⟨.st [(0, 1, false), (1, 1, false), (2, 1, false), (3, 1, false), (4, 1, false)], 5, [.int .i64 0, .int .i64 0, .int .i64 0, .bool false, .sl 2 []]⟩,
  ⟨.st [(0, 1, false), (1, 1, false), (2, 1, false), (3, 1, false), (4, 1, false)], 5, [.int .i64 0, .int .i64 0, .int .i64 0, .bool false, .sl 2 []]⟩,
  ⟨.fn, 1, [.nilf]⟩,
  ⟨.fn, 1, [.nilf]⟩,
  ⟨.sl 152 2 2, 1, [.sl 2 []]⟩,
  ⟨.st [(0, 1, false), (1, 1, false), (2, 1, false), (3, 1, false), (4, 1, false)], 5, [.int .i64 0, .int .i64 0, .int .i64 0, .bool false, .sl 2 []]⟩,
  ⟨.st [(0, 1, false), (1, 1, false), (2, 1, false), (3, 1, false), (4, 1, false)], 5, [.int .i64 0, .int .i64 0, .int .i64 0, .bool false, .sl 2 []]⟩,
  ⟨.un, 0, []⟩,
  ⟨.fn, 1, [.nilf]⟩,
  ⟨.fn, 1, [.nilf]⟩,
  ⟨.sl 69 1 24, 1, [.sl 1 []]⟩,
  ⟨.un, 0, []⟩,
  ⟨.fn, 1, [.nilf]⟩,
  ⟨.sl 72 1 24, 1, [.sl 1 []]⟩,
  ⟨.un, 0, []⟩,
  ⟨.fn, 1, [.nilf]⟩,
  ⟨.fn, 1, [.nilf]⟩,
  ⟨.fn, 1, [.nilf]⟩,
  ⟨.st [(0, 1, false), (1, 1, false), (2, 1, false)], 3, [.int .i64 0, .int .i64 0, .int .i64 0]⟩,
  ⟨.st [(0, 1, false), (1, 1, false), (2, 1, false)], 3, [.int .i64 0, .int .i64 0, .int .i64 0]⟩,
  ⟨.un, 0, []⟩,
  ⟨.fn, 1, [.nilf]⟩,
  ⟨.un, 0, []⟩,
  ⟨.fn, 1, [.nilf]⟩,
  ⟨.fn, 1, [.nilf]⟩,
  ⟨.fn, 1, [.nilf]⟩,
  ⟨.fn, 1, [.nilf]⟩,
  ⟨.fn, 1, [.nilf]⟩,
  ⟨.fn, 1, [.nilf]⟩,
  ⟨.fn, 1, [.nilf]⟩,
  ⟨.fn, 1, [.nilf]⟩,
  ⟨.ptr, 1, [.nilp]⟩,
  ⟨.st [(0, 1, false), (1, 1, false), (2, 1, false), (3, 1, false), (4, 1, false)], 5, [.sl 1 [], .int .i64 0, .sl 4 [], .bool false, .int .i64 0]⟩,
  ⟨.st [(0, 1, false), (1, 1, false), (2, 1, false), (3, 1, false), (4, 1, false)], 5, [.sl 1 [], .int .i64 0, .sl 4 [], .bool false, .int .i64 0]⟩,
  ⟨.fn, 1, [.nilf]⟩,
  ⟨.fn, 1, [.nilf]⟩,
  ⟨.fn, 1, [.nilf]⟩,
  ⟨.fn, 1, [.nilf]⟩,
  ⟨.fn, 1, [.nilf]⟩,
  ⟨.st [(0, 1, false), (1, 1, false), (2, 1, false), (3, 1, false)], 4, [.int .i64 0, .sl 1 [], .str [], .bool false]⟩,
  ⟨.st [(0, 1, false), (1, 1, false), (2, 1, false), (3, 1, false)], 4, [.int .i64 0, .sl 1 [], .str [], .bool false]⟩,
  ⟨.fn, 1, [.nilf]⟩,
  ⟨.fn, 1, [.nilf]⟩,
  ⟨.fn, 1, [.nilf]⟩,
  ⟨.fn, 1, [.nilf]⟩,
  ⟨.fn, 1, [.nilf]⟩,
  ⟨.un, 0, []⟩,
  ⟨.fn, 1, [.nilf]⟩,
  ⟨.fn, 1, [.nilf]⟩,
  ⟨.st [(0, 1, false), (1, 1, false), (2, 1, false), (3, 1, false)], 4, [.int .i64 0, .sl 1 [], .str [], .str []]⟩,
  ⟨.st [(0, 1, false), (1, 1, false), (2, 1, false), (3, 1, false)], 4, [.int .i64 0, .sl 1 [], .str [], .str []]⟩,
  ⟨.ptr, 1, [.nilp]⟩,
  ⟨.st [(0, 1, false), (1, 1, false), (2, 1, false)], 3, [.sl 4 [], .int .i64 0, .bool false]⟩,
  ⟨.st [(0, 1, false), (1, 1, false), (2, 1, false)], 3, [.sl 4 [], .int .i64 0, .bool false]⟩,
  ⟨.fn, 1, [.nilf]⟩,
  ⟨.fn, 1, [.nilf]⟩,
  ⟨.fn, 1, [.nilf]⟩,
  ⟨.st [(0, 1, false), (1, 1, false), (2, 1, false)], 3, [.int .i64 0, .bool false, .sl 2 []]⟩,
  ⟨.st [(0, 1, false), (1, 1, false), (2, 1, false)], 3, [.int .i64 0, .bool false, .sl 2 []]⟩,
  ⟨.ptr, 1, [.nilp]⟩,
  ⟨.st [(0, 1, false), (1, 1, false), (2, 1, false)], 3, [.sl 1 [], .int .i64 0, .bool false]⟩,
  ⟨.st [(0, 1, false), (1, 1, false), (2, 1, false)], 3, [.sl 1 [], .int .i64 0, .bool false]⟩,
  ⟨.map 3 144, 1, [.nilm]⟩,
  ⟨.fn, 1, [.nilf]⟩,
  ⟨.fn, 1, [.nilf]⟩,
  ⟨.fn, 1, [.nilf]⟩,
  ⟨.fn, 1, [.nilf]⟩,
  ⟨.fn, 1, [.nilf]⟩,
  ⟨.st [(0, 1, false), (1, 1, false), (2, 1, false)], 3, [.int .i64 0, .bool false, .sl 2 []]⟩,
  ⟨.st [(0, 1, false), (1, 1, false), (2, 1, false)], 3, [.int .i64 0, .bool false, .sl 2 []]⟩,
  ⟨.st [(0, 1, false), (1, 1, false)], 2, [.int .u8 0, .int .u8 0]⟩,
  ⟨.st [(0, 1, false), (1, 1, false)], 2, [.int .u8 0, .int .u8 0]⟩,
  ⟨.st [(0, 1, false), (1, 1, false)], 2, [.int .u8 0, .int .u8 0]⟩,
  ⟨.ptr, 1, [.nilp]⟩,
  ⟨.sl 160 2 16, 1, [.sl 2 []]⟩,
  ⟨.sl 160 2 16, 1, [.sl 2 []]⟩,
  ⟨.st [(0, 1, false), (1, 1, false), (2, 1, false), (3, 1, false)], 4, [.sl 1 [], .int .i64 0, .sl 3 [], .sl 2 []]⟩,
  ⟨.st [(0, 1, false), (1, 1, false), (2, 1, false), (3, 1, false)], 4, [.sl 1 [], .int .i64 0, .sl 3 [], .sl 2 []]⟩,
  ⟨.fn, 1, [.nilf]⟩,
  ⟨.st [(0, 1, false), (1, 1, false)], 2, [.int .i64 0, .int .i64 0]⟩,
  ⟨.st [(0, 1, false), (1, 1, false)], 2, [.int .i64 0, .int .i64 0]⟩,
  ⟨.fn, 1, [.nilf]⟩,
  ⟨.un, 0, []⟩,
  ⟨.fn, 1, [.nilf]⟩,
  ⟨.sl 168 401 3224, 1, [.sl 401 []]⟩,
  ⟨.arr 3 1 200, 200, List.replicate 200 (.int .i64 0)⟩,
  ⟨.arr 3 1 200, 200, List.replicate 200 (.int .i64 0)⟩,
  ⟨.st [(0, 1, false), (1, 200, true), (201, 200, true)], 401, [.sl 5 []] ++ List.replicate 200 (.int .i64 0) ++ List.replicate 200 (.int .i64 0)⟩,
  ⟨.st [(0, 1, false), (1, 200, true), (201, 200, true)], 401, [.sl 5 []] ++ List.replicate 200 (.int .i64 0) ++ List.replicate 200 (.int .i64 0)⟩,
  ⟨.fn, 1, [.nilf]⟩,
  ⟨.ptr, 1, [.nilp]⟩,
  ⟨.fn, 1, [.nilf]⟩,
  ⟨.sl 4 1 1, 1, [.sl 1 []]⟩,
  ⟨.fn, 1, [.nilf]⟩,
  ⟨.ptr, 1, [.nilp]⟩,
  ⟨.st [(0, 1, false), (1, 1, false)], 2, [.sl 5 [], .sl 1 []]⟩,
  ⟨.st [(0, 1, false), (1, 1, false)], 2, [.sl 5 [], .sl 1 []]⟩,
  ⟨.fn, 1, [.nilf]⟩,
  ⟨.fn, 1, [.nilf]⟩,
  ⟨.fn, 1, [.nilf]⟩,
  ⟨.fn, 1, [.nilf]⟩,
  ⟨.fn, 1, [.nilf]⟩,
  ⟨.fn, 1, [.nilf]⟩,
  ⟨.fn, 1, [.nilf]⟩,
  ⟨.un, 0, []⟩,
  ⟨.fn, 1, [.nilf]⟩,
  ⟨.fn, 1, [.nilf]⟩,
  ⟨.fn, 1, [.nilf]⟩,
  ⟨.fn, 1, [.nilf]⟩,
  ⟨.fn, 1, [.nilf]⟩,
  ⟨.fn, 1, [.nilf]⟩,
  ⟨.fn, 1, [.nilf]⟩,
  ⟨.ptr, 1, [.nilp]⟩,
  ⟨.fn, 1, [.nilf]⟩,
  ⟨.un, 0, []⟩,
  ⟨.fn, 1, [.nilf]⟩,
  ⟨.ptr, 1, [.nilp]⟩,
  ⟨.fn, 1, [.nilf]⟩,
  ⟨.ptr, 1, [.nilp]⟩,
  ⟨.st [(0, 1, false), (1, 1, false), (2, 1, false)], 3, [.sl 1 [], .int .i64 0, .int .i64 0]⟩,
  ⟨.st [(0, 1, false), (1, 1, false), (2, 1, false)], 3, [.sl 1 [], .int .i64 0, .int .i64 0]⟩,
  ⟨.un, 0, []⟩,
  ⟨.fn, 1, [.nilf]⟩,
  ⟨.fn, 1, [.nilf]⟩,
  ⟨.ptr, 1, [.nilp]⟩,
  ⟨.fn, 1, [.nilf]⟩,
  ⟨.fn, 1, [.nilf]⟩,
  ⟨.fn, 1, [.nilf]⟩,
  ⟨.fn, 1, [.nilf]⟩,
  ⟨.fn, 1, [.nilf]⟩,
  ⟨.map 5 3, 1, [.nilm]⟩,
  ⟨.fn, 1, [.nilf]⟩,
  ⟨.un, 0, []⟩,
  ⟨.fn, 1, [.nilf]⟩,
  ⟨.fn, 1, [.nilf]⟩,
  ⟨.map 5 5, 1, [.nilm]⟩,
  ⟨.un, 0, []⟩,
  ⟨.fn, 1, [.nilf]⟩,
  ⟨.fn, 1, [.nilf]⟩,
  ⟨.un, 0, []⟩,
  ⟨.fn, 1, [.nilf]⟩,
  ⟨.st [(0, 1, false), (1, 1, false), (2, 1, false), (3, 1, false)], 4, [.nilp, .nilp, .nilp, .str []]⟩,
  ⟨.st [(0, 1, false), (1, 1, false), (2, 1, false), (3, 1, false)], 4, [.nilp, .nilp, .nilp, .str []]⟩,
  ⟨.arr 16 1 0, 0, []⟩,
  ⟨.un, 0, []⟩,
  ⟨.un, 0, []⟩,
  ⟨.int .u8, 1, [.int .u8 0]⟩,
  ⟨.int .u8, 1, [.int .u8 0]⟩,
  ⟨.fn, 1, [.nilf]⟩,
  ⟨.ptr, 1, [.nilp]⟩,
  ⟨.int .i32, 1, [.int .i32 0]⟩,
  ⟨.int .i32, 1, [.int .i32 0]⟩,
  ⟨.st [(0, 1, false), (1, 1, false), (2, 1, false), (3, 1, false), (4, 1, false), (5, 1, false), (6, 1, false), (7, 1, false), (8, 1, false), (9, 1, false), (10, 1, false)], 11, [.int .u64 0, .int .u64 0, .int .u32 0, .int .u8 0, .int .u8 0, .int .u8 0, .int .u8 0, .nilf, .nilp, .int .i32 0, .int .i32 0]⟩,
  ⟨.st [(0, 1, false), (1, 1, false), (2, 1, false), (3, 1, false), (4, 1, false), (5, 1, false), (6, 1, false), (7, 1, false), (8, 1, false), (9, 1, false), (10, 1, false)], 11, [.int .u64 0, .int .u64 0, .int .u32 0, .int .u8 0, .int .u8 0, .int .u8 0, .int .u8 0, .nilf, .nilp, .int .i32 0, .int .i32 0]⟩,
  ⟨.un, 0, []⟩]
  ok := by kernel_rfl
set_option maxRecDepth 100000
@[go_sem ↓] theorem y1 : tabs.ty 1 = ⟨.fn, 1, [.nilf]⟩ := rfl
@[go_sem ↓] theorem y2 : tabs.ty 2 = ⟨.int .i64, 1, [.int .i64 0]⟩ := rfl
@[go_sem ↓] theorem y3 : tabs.ty 3 = ⟨.int .i64, 1, [.int .i64 0]⟩ := rfl
@[go_sem ↓] theorem y4 : tabs.ty 4 = ⟨.bool, 1, [.bool false]⟩ := rfl
@[go_sem ↓] theorem y5 : tabs.ty 5 = ⟨.int .u8, 1, [.int .u8 0]⟩ := rfl
@[go_sem ↓] theorem y6 : tabs.ty 6 = ⟨.int .u8, 1, [.int .u8 0]⟩ := rfl
@[go_sem ↓] theorem y7 : tabs.ty 7 = ⟨.st [(0, 1, false), (1, 1, false), (2, 1, false), (3, 1, false)], 4, [.int .i64 0, .int .i64 0, .bool false, .int .u8 0]⟩ := rfl
@[go_sem ↓] theorem y8 : tabs.ty 8 = ⟨.st [(0, 1, false), (1, 1, false), (2, 1, false), (3, 1, false)], 4, [.int .i64 0, .int .i64 0, .bool false, .int .u8 0]⟩ := rfl
@[go_sem ↓] theorem y9 : tabs.ty 9 = ⟨.str, 1, [.str []]⟩ := rfl
@[go_sem ↓] theorem y10 : tabs.ty 10 = ⟨.str, 1, [.str []]⟩ := rfl
@[go_sem ↓] theorem y11 : tabs.ty 11 = ⟨.str, 1, [.str []]⟩ := rfl
@[go_sem ↓] theorem y12 : tabs.ty 12 = ⟨.int .u64, 1, [.int .u64 0]⟩ := rfl
@[go_sem ↓] theorem y13 : tabs.ty 13 = ⟨.st [(0, 1, false), (1, 1, false)], 2, [.str [], .int .u64 0]⟩ := rfl
@[go_sem ↓] theorem y14 : tabs.ty 14 = ⟨.st [(0, 1, false), (1, 1, false)], 2, [.str [], .int .u64 0]⟩ := rfl
@[go_sem ↓] theorem y15 : tabs.ty 15 = ⟨.ptr, 1, [.nilp]⟩ := rfl
@[go_sem ↓] theorem y16 : tabs.ty 16 = ⟨.ptr, 1, [.nilp]⟩ := rfl
@[go_sem ↓] theorem y17 : tabs.ty 17 = ⟨.ptr, 1, [.nilp]⟩ := rfl
@[go_sem ↓] theorem y18 : tabs.ty 18 = ⟨.st [(0, 1, false)], 1, [.nilp]⟩ := rfl
@[go_sem ↓] theorem y19 : tabs.ty 19 = ⟨.st [(0, 1, false)], 1, [.nilp]⟩ := rfl
@[go_sem ↓] theorem y20 : tabs.ty 20 = ⟨.ifc, 1, [.nili]⟩ := rfl
@[go_sem ↓] theorem y21 : tabs.ty 21 = ⟨.int .i32, 1, [.int .i32 0]⟩ := rfl
@[go_sem ↓] theorem y22 : tabs.ty 22 = ⟨.sl 5 1 1, 1, [.sl 1 []]⟩ := rfl
@[go_sem ↓] theorem y23 : tabs.ty 23 = ⟨.int .u32, 1, [.int .u32 0]⟩ := rfl
@[go_sem ↓] theorem y24 : tabs.ty 24 = ⟨.fn, 1, [.nilf]⟩ := rfl
@[go_sem ↓] theorem y25 : tabs.ty 25 = ⟨.sl 35 4 40, 1, [.sl 4 []]⟩ := rfl
@[go_sem ↓] theorem y26 : tabs.ty 26 = ⟨.int .i64, 1, [.int .i64 0]⟩ := rfl
@[go_sem ↓] theorem y28 : tabs.ty 28 = ⟨.fn, 1, [.nilf]⟩ := rfl
@[go_sem ↓] theorem y29 : tabs.ty 29 = ⟨.sl 33 4 40, 1, [.sl 4 []]⟩ := rfl
@[go_sem ↓] theorem y30 : tabs.ty 30 = ⟨.fn, 1, [.nilf]⟩ := rfl
@[go_sem ↓] theorem y31 : tabs.ty 31 = ⟨.fn, 1, [.nilf]⟩ := rfl
@[go_sem ↓] theorem y32 : tabs.ty 32 = ⟨.st [(0, 1, false), (1, 1, false), (2, 1, false), (3, 1, false)], 4, [.int .u32 0, .int .u32 0, .int .i64 0, .sl 1 []]⟩ := rfl
@[go_sem ↓] theorem y33 : tabs.ty 33 = ⟨.st [(0, 1, false), (1, 1, false), (2, 1, false), (3, 1, false)], 4, [.int .u32 0, .int .u32 0, .int .i64 0, .sl 1 []]⟩ := rfl
@[go_sem ↓] theorem y34 : tabs.ty 34 = ⟨.fn, 1, [.nilf]⟩ := rfl
@[go_sem ↓] theorem y35 : tabs.ty 35 = ⟨.st [(0, 1, false), (1, 1, false), (2, 1, false), (3, 1, false)], 4, [.int .u32 0, .int .u32 0, .int .i64 0, .sl 1 []]⟩ := rfl
@[go_sem ↓] theorem y36 : tabs.ty 36 = ⟨.fn, 1, [.nilf]⟩ := rfl
@[go_sem ↓] theorem y37 : tabs.ty 37 = ⟨.sl 22 1 24, 1, [.sl 1 []]⟩ := rfl
@[go_sem ↓] theorem y39 : tabs.ty 39 = ⟨.fn, 1, [.nilf]⟩ := rfl
@[go_sem ↓] theorem y40 : tabs.ty 40 = ⟨.fn, 1, [.nilf]⟩ := rfl
@[go_sem ↓] theorem y41 : tabs.ty 41 = ⟨.fn, 1, [.nilf]⟩ := rfl
@[go_sem ↓] theorem y42 : tabs.ty 42 = ⟨.sl 46 4 48, 1, [.sl 4 []]⟩ := rfl
@[go_sem ↓] theorem y44 : tabs.ty 44 = ⟨.fn, 1, [.nilf]⟩ := rfl
@[go_sem ↓] theorem y45 : tabs.ty 45 = ⟨.st [(0, 1, false), (1, 1, false), (2, 1, false), (3, 1, false)], 4, [.int .i64 0, .int .i64 0, .int .i64 0, .sl 1 []]⟩ := rfl
@[go_sem ↓] theorem y46 : tabs.ty 46 = ⟨.st [(0, 1, false), (1, 1, false), (2, 1, false), (3, 1, false)], 4, [.int .i64 0, .int .i64 0, .int .i64 0, .sl 1 []]⟩ := rfl
@[go_sem ↓] theorem y47 : tabs.ty 47 = ⟨.fn, 1, [.nilf]⟩ := rfl
@[go_sem ↓] theorem y48 : tabs.ty 48 = ⟨.sl 9 1 16, 1, [.sl 1 []]⟩ := rfl
@[go_sem ↓] theorem y49 : tabs.ty 49 = ⟨.fn, 1, [.nilf]⟩ := rfl
@[go_sem ↓] theorem y51 : tabs.ty 51 = ⟨.fn, 1, [.nilf]⟩ := rfl
@[go_sem ↓] theorem y53 : tabs.ty 53 = ⟨.fn, 1, [.nilf]⟩ := rfl
@[go_sem ↓] theorem y55 : tabs.ty 55 = ⟨.fn, 1, [.nilf]⟩ := rfl
@[go_sem ↓] theorem y57 : tabs.ty 57 = ⟨.fn, 1, [.nilf]⟩ := rfl
@[go_sem ↓] theorem y58 : tabs.ty 58 = ⟨.fn, 1, [.nilf]⟩ := rfl
@[go_sem ↓] theorem y59 : tabs.ty 59 = ⟨.sl 66 9 120, 1, [.sl 9 []]⟩ := rfl
@[go_sem ↓] theorem y60 : tabs.ty 60 = ⟨.st [(0, 1, false), (1, 1, false)], 2, [.int .i64 0, .sl 9 []]⟩ := rfl
@[go_sem ↓] theorem y61 : tabs.ty 61 = ⟨.st [(0, 1, false), (1, 1, false)], 2, [.int .i64 0, .sl 9 []]⟩ := rfl
@[go_sem ↓] theorem y63 : tabs.ty 63 = ⟨.fn, 1, [.nilf]⟩ := rfl
@[go_sem ↓] theorem y64 : tabs.ty 64 = ⟨.sl 130 4 64, 1, [.sl 4 []]⟩ := rfl
@[go_sem ↓] theorem y65 : tabs.ty 65 = ⟨.st [(0, 1, false), (1, 1, false), (2, 1, false), (3, 1, false), (4, 1, false), (5, 1, false), (6, 1, false), (7, 1, false), (8, 1, false)], 9, [.int .i64 0, .str [], .int .i64 0, .bool false, .sl 1 [], .sl 4 [], .int .i64 0, .int .i64 0, .str []]⟩ := rfl
@[go_sem ↓] theorem y66 : tabs.ty 66 = ⟨.st [(0, 1, false), (1, 1, false), (2, 1, false), (3, 1, false), (4, 1, false), (5, 1, false), (6, 1, false), (7, 1, false), (8, 1, false)], 9, [.int .i64 0, .str [], .int .i64 0, .bool false, .sl 1 [], .sl 4 [], .int .i64 0, .int .i64 0, .str []]⟩ := rfl
@[go_sem ↓] theorem y67 : tabs.ty 67 = ⟨.sl 138 3 40, 1, [.sl 3 []]⟩ := rfl
@[go_sem ↓] theorem y68 : tabs.ty 68 = ⟨.fn, 1, [.nilf]⟩ := rfl
@[go_sem ↓] theorem y69 : tabs.ty 69 = ⟨.sl 81 5 56, 1, [.sl 5 []]⟩ := rfl
@[go_sem ↓] theorem y71 : tabs.ty 71 = ⟨.fn, 1, [.nilf]⟩ := rfl
@[go_sem ↓] theorem y72 : tabs.ty 72 = ⟨.sl 86 5 56, 1, [.sl 5 []]⟩ := rfl
@[go_sem ↓] theorem y74 : tabs.ty 74 = ⟨.fn, 1, [.nilf]⟩ := rfl
@[go_sem ↓] theorem y75 : tabs.ty 75 = ⟨.sl 149 3 40, 1, [.sl 3 []]⟩ := rfl
@[go_sem ↓] theorem y76 : tabs.ty 76 = ⟨.fn, 1, [.nilf]⟩ := rfl
@[go_sem ↓] theorem y77 : tabs.ty 77 = ⟨.fn, 1, [.nilf]⟩ := rfl
@[go_sem ↓] theorem y78 : tabs.ty 78 = ⟨.fn, 1, [.nilf]⟩ := rfl
@[go_sem ↓] theorem y79 : tabs.ty 79 = ⟨.sl 151 2 2, 1, [.sl 2 []]⟩ := rfl
@[go_sem ↓] theorem y80 : tabs.ty 80 = ⟨.st [(0, 1, false), (1, 1, false), (2, 1, false), (3, 1, false), (4, 1, false)], 5, [.int .i64 0, .int .i64 0, .int .i64 0, .bool false, .sl 2 []]⟩ := rfl
@[go_sem ↓] theorem y81 : tabs.ty 81 = ⟨.st [(0, 1, false), (1, 1, false), (2, 1, false), (3, 1, false), (4, 1, false)], 5, [.int .i64 0, .int .i64 0, .int .i64 0, .bool false, .sl 2 []]⟩ := rfl
@[go_sem ↓] theorem y82 : tabs.ty 82 = ⟨.fn, 1, [.nilf]⟩ := rfl
@[go_sem ↓] theorem y83 : tabs.ty 83 = ⟨.fn, 1, [.nilf]⟩ := rfl
@[go_sem ↓] theorem y84 : tabs.ty 84 = ⟨.sl 152 2 2, 1, [.sl 2 []]⟩ := rfl
@[go_sem ↓] theorem y85 : tabs.ty 85 = ⟨.st [(0, 1, false), (1, 1, false), (2, 1, false), (3, 1, false), (4, 1, false)], 5, [.int .i64 0, .int .i64 0, .int .i64 0, .bool false, .sl 2 []]⟩ := rfl
@[go_sem ↓] theorem y86 : tabs.ty 86 = ⟨.st [(0, 1, false), (1, 1, false), (2, 1, false), (3, 1, false), (4, 1, false)], 5, [.int .i64 0, .int .i64 0, .int .i64 0, .bool false, .sl 2 []]⟩ := rfl
@[go_sem ↓] theorem y88 : tabs.ty 88 = ⟨.fn, 1, [.nilf]⟩ := rfl
@[go_sem ↓] theorem y89 : tabs.ty 89 = ⟨.fn, 1, [.nilf]⟩ := rfl
@[go_sem ↓] theorem y90 : tabs.ty 90 = ⟨.sl 69 1 24, 1, [.sl 1 []]⟩ := rfl
@[go_sem ↓] theorem y92 : tabs.ty 92 = ⟨.fn, 1, [.nilf]⟩ := rfl
@[go_sem ↓] theorem y93 : tabs.ty 93 = ⟨.sl 72 1 24, 1, [.sl 1 []]⟩ := rfl
@[go_sem ↓] theorem y95 : tabs.ty 95 = ⟨.fn, 1, [.nilf]⟩ := rfl
@[go_sem ↓] theorem y96 : tabs.ty 96 = ⟨.fn, 1, [.nilf]⟩ := rfl
@[go_sem ↓] theorem y97 : tabs.ty 97 = ⟨.fn, 1, [.nilf]⟩ := rfl
@[go_sem ↓] theorem y98 : tabs.ty 98 = ⟨.st [(0, 1, false), (1, 1, false), (2, 1, false)], 3, [.int .i64 0, .int .i64 0, .int .i64 0]⟩ := rfl
@[go_sem ↓] theorem y99 : tabs.ty 99 = ⟨.st [(0, 1, false), (1, 1, false), (2, 1, false)], 3, [.int .i64 0, .int .i64 0, .int .i64 0]⟩ := rfl
@[go_sem ↓] theorem y101 : tabs.ty 101 = ⟨.fn, 1, [.nilf]⟩ := rfl
@[go_sem ↓] theorem y103 : tabs.ty 103 = ⟨.fn, 1, [.nilf]⟩ := rfl
@[go_sem ↓] theorem y104 : tabs.ty 104 = ⟨.fn, 1, [.nilf]⟩ := rfl
@[go_sem ↓] theorem y105 : tabs.ty 105 = ⟨.fn, 1, [.nilf]⟩ := rfl
@[go_sem ↓] theorem y106 : tabs.ty 106 = ⟨.fn, 1, [.nilf]⟩ := rfl
@[go_sem ↓] theorem y107 : tabs.ty 107 = ⟨.fn, 1, [.nilf]⟩ := rfl
@[go_sem ↓] theorem y108 : tabs.ty 108 = ⟨.fn, 1, [.nilf]⟩ := rfl
@[go_sem ↓] theorem y109 : tabs.ty 109 = ⟨.fn, 1, [.nilf]⟩ := rfl
@[go_sem ↓] theorem y110 : tabs.ty 110 = ⟨.fn, 1, [.nilf]⟩ := rfl
@[go_sem ↓] theorem y111 : tabs.ty 111 = ⟨.ptr, 1, [.nilp]⟩ := rfl
@[go_sem ↓] theorem y112 : tabs.ty 112 = ⟨.st [(0, 1, false), (1, 1, false), (2, 1, false), (3, 1, false), (4, 1, false)], 5, [.sl 1 [], .int .i64 0, .sl 4 [], .bool false, .int .i64 0]⟩ := rfl
@[go_sem ↓] theorem y113 : tabs.ty 113 = ⟨.st [(0, 1, false), (1, 1, false), (2, 1, false), (3, 1, false), (4, 1, false)], 5, [.sl 1 [], .int .i64 0, .sl 4 [], .bool false, .int .i64 0]⟩ := rfl
@[go_sem ↓] theorem y114 : tabs.ty 114 = ⟨.fn, 1, [.nilf]⟩ := rfl
@[go_sem ↓] theorem y115 : tabs.ty 115 = ⟨.fn, 1, [.nilf]⟩ := rfl
@[go_sem ↓] theorem y116 : tabs.ty 116 = ⟨.fn, 1, [.nilf]⟩ := rfl
@[go_sem ↓] theorem y117 : tabs.ty 117 = ⟨.fn, 1, [.nilf]⟩ := rfl
@[go_sem ↓] theorem y118 : tabs.ty 118 = ⟨.fn, 1, [.nilf]⟩ := rfl
@[go_sem ↓] theorem y119 : tabs.ty 119 = ⟨.st [(0, 1, false), (1, 1, false), (2, 1, false), (3, 1, false)], 4, [.int .i64 0, .sl 1 [], .str [], .bool false]⟩ := rfl
@[go_sem ↓] theorem y120 : tabs.ty 120 = ⟨.st [(0, 1, false), (1, 1, false), (2, 1, false), (3, 1, false)], 4, [.int .i64 0, .sl 1 [], .str [], .bool false]⟩ := rfl
@[go_sem ↓] theorem y121 : tabs.ty 121 = ⟨.fn, 1, [.nilf]⟩ := rfl
@[go_sem ↓] theorem y122 : tabs.ty 122 = ⟨.fn, 1, [.nilf]⟩ := rfl
@[go_sem ↓] theorem y123 : tabs.ty 123 = ⟨.fn, 1, [.nilf]⟩ := rfl
@[go_sem ↓] theorem y124 : tabs.ty 124 = ⟨.fn, 1, [.nilf]⟩ := rfl
@[go_sem ↓] theorem y125 : tabs.ty 125 = ⟨.fn, 1, [.nilf]⟩ := rfl
@[go_sem ↓] theorem y127 : tabs.ty 127 = ⟨.fn, 1, [.nilf]⟩ := rfl
@[go_sem ↓] theorem y128 : tabs.ty 128 = ⟨.fn, 1, [.nilf]⟩ := rfl
@[go_sem ↓] theorem y129 : tabs.ty 129 = ⟨.st [(0, 1, false), (1, 1, false), (2, 1, false), (3, 1, false)], 4, [.int .i64 0, .sl 1 [], .str [], .str []]⟩ := rfl
@[go_sem ↓] theorem y130 : tabs.ty 130 = ⟨.st [(0, 1, false), (1, 1, false), (2, 1, false), (3, 1, false)], 4, [.int .i64 0, .sl 1 [], .str [], .str []]⟩ := rfl
@[go_sem ↓] theorem y131 : tabs.ty 131 = ⟨.ptr, 1, [.nilp]⟩ := rfl
@[go_sem ↓] theorem y132 : tabs.ty 132 = ⟨.st [(0, 1, false), (1, 1, false), (2, 1, false)], 3, [.sl 4 [], .int .i64 0, .bool false]⟩ := rfl
@[go_sem ↓] theorem y133 : tabs.ty 133 = ⟨.st [(0, 1, false), (1, 1, false), (2, 1, false)], 3, [.sl 4 [], .int .i64 0, .bool false]⟩ := rfl
@[go_sem ↓] theorem y134 : tabs.ty 134 = ⟨.fn, 1, [.nilf]⟩ := rfl
@[go_sem ↓] theorem y135 : tabs.ty 135 = ⟨.fn, 1, [.nilf]⟩ := rfl
@[go_sem ↓] theorem y136 : tabs.ty 136 = ⟨.fn, 1, [.nilf]⟩ := rfl
@[go_sem ↓] theorem y137 : tabs.ty 137 = ⟨.st [(0, 1, false), (1, 1, false), (2, 1, false)], 3, [.int .i64 0, .bool false, .sl 2 []]⟩ := rfl
@[go_sem ↓] theorem y138 : tabs.ty 138 = ⟨.st [(0, 1, false), (1, 1, false), (2, 1, false)], 3, [.int .i64 0, .bool false, .sl 2 []]⟩ := rfl
@[go_sem ↓] theorem y139 : tabs.ty 139 = ⟨.ptr, 1, [.nilp]⟩ := rfl
@[go_sem ↓] theorem y140 : tabs.ty 140 = ⟨.st [(0, 1, false), (1, 1, false), (2, 1, false)], 3, [.sl 1 [], .int .i64 0, .bool false]⟩ := rfl
@[go_sem ↓] theorem y141 : tabs.ty 141 = ⟨.st [(0, 1, false), (1, 1, false), (2, 1, false)], 3, [.sl 1 [], .int .i64 0, .bool false]⟩ := rfl
@[go_sem ↓] theorem y142 : tabs.ty 142 = ⟨.map 3 144, 1, [.nilm]⟩ := rfl
@[go_sem ↓] theorem y143 : tabs.ty 143 = ⟨.fn, 1, [.nilf]⟩ := rfl
@[go_sem ↓] theorem y144 : tabs.ty 144 = ⟨.fn, 1, [.nilf]⟩ := rfl
@[go_sem ↓] theorem y145 : tabs.ty 145 = ⟨.fn, 1, [.nilf]⟩ := rfl
@[go_sem ↓] theorem y146 : tabs.ty 146 = ⟨.fn, 1, [.nilf]⟩ := rfl
@[go_sem ↓] theorem y147 : tabs.ty 147 = ⟨.fn, 1, [.nilf]⟩ := rfl
@[go_sem ↓] theorem y148 : tabs.ty 148 = ⟨.st [(0, 1, false), (1, 1, false), (2, 1, false)], 3, [.int .i64 0, .bool false, .sl 2 []]⟩ := rfl
@[go_sem ↓] theorem y149 : tabs.ty 149 = ⟨.st [(0, 1, false), (1, 1, false), (2, 1, false)], 3, [.int .i64 0, .bool false, .sl 2 []]⟩ := rfl
@[go_sem ↓] theorem y150 : tabs.ty 150 = ⟨.st [(0, 1, false), (1, 1, false)], 2, [.int .u8 0, .int .u8 0]⟩ := rfl
@[go_sem ↓] theorem y151 : tabs.ty 151 = ⟨.st [(0, 1, false), (1, 1, false)], 2, [.int .u8 0, .int .u8 0]⟩ := rfl
@[go_sem ↓] theorem y152 : tabs.ty 152 = ⟨.st [(0, 1, false), (1, 1, false)], 2, [.int .u8 0, .int .u8 0]⟩ := rfl
@[go_sem ↓] theorem y153 : tabs.ty 153 = ⟨.ptr, 1, [.nilp]⟩ := rfl
@[go_sem ↓] theorem y154 : tabs.ty 154 = ⟨.sl 160 2 16, 1, [.sl 2 []]⟩ := rfl
@[go_sem ↓] theorem y155 : tabs.ty 155 = ⟨.sl 160 2 16, 1, [.sl 2 []]⟩ := rfl
@[go_sem ↓] theorem y156 : tabs.ty 156 = ⟨.st [(0, 1, false), (1, 1, false), (2, 1, false), (3, 1, false)], 4, [.sl 1 [], .int .i64 0, .sl 3 [], .sl 2 []]⟩ := rfl
@[go_sem ↓] theorem y157 : tabs.ty 157 = ⟨.st [(0, 1, false), (1, 1, false), (2, 1, false), (3, 1, false)], 4, [.sl 1 [], .int .i64 0, .sl 3 [], .sl 2 []]⟩ := rfl
@[go_sem ↓] theorem y158 : tabs.ty 158 = ⟨.fn, 1, [.nilf]⟩ := rfl
@[go_sem ↓] theorem y159 : tabs.ty 159 = ⟨.st [(0, 1, false), (1, 1, false)], 2, [.int .i64 0, .int .i64 0]⟩ := rfl
@[go_sem ↓] theorem y160 : tabs.ty 160 = ⟨.st [(0, 1, false), (1, 1, false)], 2, [.int .i64 0, .int .i64 0]⟩ := rfl
@[go_sem ↓] theorem y161 : tabs.ty 161 = ⟨.fn, 1, [.nilf]⟩ := rfl
@[go_sem ↓] theorem y163 : tabs.ty 163 = ⟨.fn, 1, [.nilf]⟩ := rfl
@[go_sem ↓] theorem y164 : tabs.ty 164 = ⟨.sl 168 401 3224, 1, [.sl 401 []]⟩ := rfl
@[go_sem ↓] theorem y165 : tabs.ty 165 = ⟨.arr 3 1 200, 200, List.replicate 200 (.int .i64 0)⟩ := rfl
@[go_sem ↓] theorem y166 : tabs.ty 166 = ⟨.arr 3 1 200, 200, List.replicate 200 (.int .i64 0)⟩ := rfl
@[go_sem ↓] theorem y167 : tabs.ty 167 = ⟨.st [(0, 1, false), (1, 200, true), (201, 200, true)], 401, [.sl 5 []] ++ List.replicate 200 (.int .i64 0) ++ List.replicate 200 (.int .i64 0)⟩ := rfl
@[go_sem ↓] theorem y168 : tabs.ty 168 = ⟨.st [(0, 1, false), (1, 200, true), (201, 200, true)], 401, [.sl 5 []] ++ List.replicate 200 (.int .i64 0) ++ List.replicate 200 (.int .i64 0)⟩ := rfl
@[go_sem ↓] theorem y169 : tabs.ty 169 = ⟨.fn, 1, [.nilf]⟩ := rfl
@[go_sem ↓] theorem y170 : tabs.ty 170 = ⟨.ptr, 1, [.nilp]⟩ := rfl
@[go_sem ↓] theorem y171 : tabs.ty 171 = ⟨.fn, 1, [.nilf]⟩ := rfl
@[go_sem ↓] theorem y172 : tabs.ty 172 = ⟨.sl 4 1 1, 1, [.sl 1 []]⟩ := rfl
@[go_sem ↓] theorem y173 : tabs.ty 173 = ⟨.fn, 1, [.nilf]⟩ := rfl
@[go_sem ↓] theorem y174 : tabs.ty 174 = ⟨.ptr, 1, [.nilp]⟩ := rfl
@[go_sem ↓] theorem y175 : tabs.ty 175 = ⟨.st [(0, 1, false), (1, 1, false)], 2, [.sl 5 [], .sl 1 []]⟩ := rfl
@[go_sem ↓] theorem y176 : tabs.ty 176 = ⟨.st [(0, 1, false), (1, 1, false)], 2, [.sl 5 [], .sl 1 []]⟩ := rfl
@[go_sem ↓] theorem y177 : tabs.ty 177 = ⟨.fn, 1, [.nilf]⟩ := rfl
@[go_sem ↓] theorem y178 : tabs.ty 178 = ⟨.fn, 1, [.nilf]⟩ := rfl
@[go_sem ↓] theorem y179 : tabs.ty 179 = ⟨.fn, 1, [.nilf]⟩ := rfl
@[go_sem ↓] theorem y180 : tabs.ty 180 = ⟨.fn, 1, [.nilf]⟩ := rfl
@[go_sem ↓] theorem y181 : tabs.ty 181 = ⟨.fn, 1, [.nilf]⟩ := rfl
@[go_sem ↓] theorem y182 : tabs.ty 182 = ⟨.fn, 1, [.nilf]⟩ := rfl
@[go_sem ↓] theorem y183 : tabs.ty 183 = ⟨.fn, 1, [.nilf]⟩ := rfl
@[go_sem ↓] theorem y185 : tabs.ty 185 = ⟨.fn, 1, [.nilf]⟩ := rfl
@[go_sem ↓] theorem y186 : tabs.ty 186 = ⟨.fn, 1, [.nilf]⟩ := rfl
@[go_sem ↓] theorem y187 : tabs.ty 187 = ⟨.fn, 1, [.nilf]⟩ := rfl
@[go_sem ↓] theorem y188 : tabs.ty 188 = ⟨.fn, 1, [.nilf]⟩ := rfl
@[go_sem ↓] theorem y189 : tabs.ty 189 = ⟨.fn, 1, [.nilf]⟩ := rfl
@[go_sem ↓] theorem y190 : tabs.ty 190 = ⟨.fn, 1, [.nilf]⟩ := rfl
@[go_sem ↓] theorem y191 : tabs.ty 191 = ⟨.fn, 1, [.nilf]⟩ := rfl
@[go_sem ↓] theorem y192 : tabs.ty 192 = ⟨.ptr, 1, [.nilp]⟩ := rfl
@[go_sem ↓] theorem y193 : tabs.ty 193 = ⟨.fn, 1, [.nilf]⟩ := rfl
@[go_sem ↓] theorem y195 : tabs.ty 195 = ⟨.fn, 1, [.nilf]⟩ := rfl
@[go_sem ↓] theorem y196 : tabs.ty 196 = ⟨.ptr, 1, [.nilp]⟩ := rfl
@[go_sem ↓] theorem y197 : tabs.ty 197 = ⟨.fn, 1, [.nilf]⟩ := rfl
@[go_sem ↓] theorem y198 : tabs.ty 198 = ⟨.ptr, 1, [.nilp]⟩ := rfl
@[go_sem ↓] theorem y199 : tabs.ty 199 = ⟨.st [(0, 1, false), (1, 1, false), (2, 1, false)], 3, [.sl 1 [], .int .i64 0, .int .i64 0]⟩ := rfl
@[go_sem ↓] theorem y200 : tabs.ty 200 = ⟨.st [(0, 1, false), (1, 1, false), (2, 1, false)], 3, [.sl 1 [], .int .i64 0, .int .i64 0]⟩ := rfl
@[go_sem ↓] theorem y202 : tabs.ty 202 = ⟨.fn, 1, [.nilf]⟩ := rfl
@[go_sem ↓] theorem y203 : tabs.ty 203 = ⟨.fn, 1, [.nilf]⟩ := rfl
@[go_sem ↓] theorem y204 : tabs.ty 204 = ⟨.ptr, 1, [.nilp]⟩ := rfl
@[go_sem ↓] theorem y205 : tabs.ty 205 = ⟨.fn, 1, [.nilf]⟩ := rfl
@[go_sem ↓] theorem y206 : tabs.ty 206 = ⟨.fn, 1, [.nilf]⟩ := rfl
@[go_sem ↓] theorem y207 : tabs.ty 207 = ⟨.fn, 1, [.nilf]⟩ := rfl
@[go_sem ↓] theorem y208 : tabs.ty 208 = ⟨.fn, 1, [.nilf]⟩ := rfl
@[go_sem ↓] theorem y209 : tabs.ty 209 = ⟨.fn, 1, [.nilf]⟩ := rfl
@[go_sem ↓] theorem y210 : tabs.ty 210 = ⟨.map 5 3, 1, [.nilm]⟩ := rfl
@[go_sem ↓] theorem y211 : tabs.ty 211 = ⟨.fn, 1, [.nilf]⟩ := rfl
@[go_sem ↓] theorem y213 : tabs.ty 213 = ⟨.fn, 1, [.nilf]⟩ := rfl
@[go_sem ↓] theorem y214 : tabs.ty 214 = ⟨.fn, 1, [.nilf]⟩ := rfl
@[go_sem ↓] theorem y215 : tabs.ty 215 = ⟨.map 5 5, 1, [.nilm]⟩ := rfl
@[go_sem ↓] theorem y217 : tabs.ty 217 = ⟨.fn, 1, [.nilf]⟩ := rfl
@[go_sem ↓] theorem y218 : tabs.ty 218 = ⟨.fn, 1, [.nilf]⟩ := rfl
@[go_sem ↓] theorem y220 : tabs.ty 220 = ⟨.fn, 1, [.nilf]⟩ := rfl
@[go_sem ↓] theorem y221 : tabs.ty 221 = ⟨.st [(0, 1, false), (1, 1, false), (2, 1, false), (3, 1, false)], 4, [.nilp, .nilp, .nilp, .str []]⟩ := rfl
@[go_sem ↓] theorem y222 : tabs.ty 222 = ⟨.st [(0, 1, false), (1, 1, false), (2, 1, false), (3, 1, false)], 4, [.nilp, .nilp, .nilp, .str []]⟩ := rfl
@[go_sem ↓] theorem y223 : tabs.ty 223 = ⟨.arr 16 1 0, 0, []⟩ := rfl
@[go_sem ↓] theorem y226 : tabs.ty 226 = ⟨.int .u8, 1, [.int .u8 0]⟩ := rfl
@[go_sem ↓] theorem y227 : tabs.ty 227 = ⟨.int .u8, 1, [.int .u8 0]⟩ := rfl
@[go_sem ↓] theorem y228 : tabs.ty 228 = ⟨.fn, 1, [.nilf]⟩ := rfl
@[go_sem ↓] theorem y229 : tabs.ty 229 = ⟨.ptr, 1, [.nilp]⟩ := rfl
@[go_sem ↓] theorem y230 : tabs.ty 230 = ⟨.int .i32, 1, [.int .i32 0]⟩ := rfl
@[go_sem ↓] theorem y231 : tabs.ty 231 = ⟨.int .i32, 1, [.int .i32 0]⟩ := rfl
@[go_sem ↓] theorem y232 : tabs.ty 232 = ⟨.st [(0, 1, false), (1, 1, false), (2, 1, false), (3, 1, false), (4, 1, false), (5, 1, false), (6, 1, false), (7, 1, false), (8, 1, false), (9, 1, false), (10, 1, false)], 11, [.int .u64 0, .int .u64 0, .int .u32 0, .int .u8 0, .int .u8 0, .int .u8 0, .int .u8 0, .nilf, .nilp, .int .i32 0, .int .i32 0]⟩ := rfl
@[go_sem ↓] theorem y233 : tabs.ty 233 = ⟨.st [(0, 1, false), (1, 1, false), (2, 1, false), (3, 1, false), (4, 1, false), (5, 1, false), (6, 1, false), (7, 1, false), (8, 1, false), (9, 1, false), (10, 1, false)], 11, [.int .u64 0, .int .u64 0, .int .u32 0, .int .u8 0, .int .u8 0, .int .u8 0, .int .u8 0, .nilf, .nilp, .int .i32 0, .int .i32 0]⟩ := rfl
end Go.Proofs.Ytgebfcdcpmmgnaa.Vs

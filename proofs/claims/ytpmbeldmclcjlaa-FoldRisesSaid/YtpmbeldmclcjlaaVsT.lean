/- The types of this seat. -/
import Derived.Test.YtpmbeldmclcjlaaVsN
import Derived.Test.YtpmbeldmclcjlaaProg
namespace Go.Proofs.Ytpmbeldmclcjlaa.Vs
set_option maxRecDepth 100000 in
def tabs : Tb Try.prog where
  tys := [⟨.un, 0, []⟩,
  ⟨.fn, 1, [.nilf]⟩,
  ⟨.int .i64, 1, [.int .i64 0]⟩,
  ⟨.int .i64, 1, [.int .i64 0]⟩,
  ⟨.bool, 1, [.bool false]⟩,
  ⟨.int .u8, 1, [.int .u8 0]⟩,
  ⟨.int .u8, 1, [.int .u8 0]⟩,
  ⟨.st [(0, 1, false), (1, 1, false), (2, 1, false), (3, 1, false)], 4, [.int .i64 0, .int .i64 0, .bool false, .int .u8 0]⟩,
  ⟨.st [(0, 1, false), (1, 1, false), (2, 1, false), (3, 1, false)], 4, [.int .i64 0, .int .i64 0, .bool false, .int .u8 0]⟩,
  ⟨.str, 1, [.str []]⟩,
  ⟨.str, 1, [.str []]⟩,
  ⟨.str, 1, [.str []]⟩,
  ⟨.int .u64, 1, [.int .u64 0]⟩,
  ⟨.st [(0, 1, false), (1, 1, false)], 2, [.str [], .int .u64 0]⟩,
  ⟨.st [(0, 1, false), (1, 1, false)], 2, [.str [], .int .u64 0]⟩,
  ⟨.ptr, 1, [.nilp]⟩,
  ⟨.ptr, 1, [.nilp]⟩,
  ⟨.ptr, 1, [.nilp]⟩,
  ⟨.st [(0, 1, false)], 1, [.nilp]⟩,
  ⟨.st [(0, 1, false)], 1, [.nilp]⟩,
  ⟨.ifc, 1, [.nili]⟩,
  ⟨.int .i32, 1, [.int .i32 0]⟩,
  ⟨.sl 42 7 96, 1, [.sl 7 []]⟩,
  ⟨.sl 9 1 16, 1, [.sl 1 []]⟩,
  ⟨.st [(0, 1, false), (1, 1, false), (2, 1, false)], 3, [.sl 7 [], .sl 1 [], .int .i64 0]⟩,
  ⟨.st [(0, 1, false), (1, 1, false), (2, 1, false)], 3, [.sl 7 [], .sl 1 [], .int .i64 0]⟩,
  ⟨.sl 35 13 136, 1, [.sl 13 []]⟩,
  ⟨.fn, 1, [.nilf]⟩,
  ⟨.fn, 1, [.nilf]⟩,
  ⟨.sl 33 1 24, 1, [.sl 1 []]⟩,
  ⟨.st [(0, 1, false), (1, 1, false), (2, 1, false), (3, 1, false), (4, 1, false)], 5, [.int .i64 0, .int .i64 0, .int .i64 0, .int .i64 0, .sl 1 []]⟩,
  ⟨.st [(0, 1, false), (1, 1, false), (2, 1, false), (3, 1, false), (4, 1, false)], 5, [.int .i64 0, .int .i64 0, .int .i64 0, .int .i64 0, .sl 1 []]⟩,
  ⟨.fn, 1, [.nilf]⟩,
  ⟨.sl 5 1 1, 1, [.sl 1 []]⟩,
  ⟨.st [(0, 1, false), (1, 5, true), (6, 1, false), (7, 1, false), (8, 1, false), (9, 1, false), (10, 1, false), (11, 1, false), (12, 1, false)], 13, [.int .i64 0, .int .i64 0, .int .i64 0, .int .i64 0, .int .i64 0, .sl 1 [], .int .i64 0, .int .i64 0, .int .i64 0, .int .i64 0, .int .i64 0, .int .i64 0, .sl 1 []]⟩,
  ⟨.st [(0, 1, false), (1, 5, true), (6, 1, false), (7, 1, false), (8, 1, false), (9, 1, false), (10, 1, false), (11, 1, false), (12, 1, false)], 13, [.int .i64 0, .int .i64 0, .int .i64 0, .int .i64 0, .int .i64 0, .sl 1 [], .int .i64 0, .int .i64 0, .int .i64 0, .int .i64 0, .int .i64 0, .int .i64 0, .sl 1 []]⟩,
  ⟨.fn, 1, [.nilf]⟩,
  ⟨.int .i64, 1, [.int .i64 0]⟩,
  ⟨.un, 0, []⟩,
  ⟨.fn, 1, [.nilf]⟩,
  ⟨.sl 130 3 40, 1, [.sl 3 []]⟩,
  ⟨.st [(0, 1, false), (1, 1, false), (2, 1, false), (3, 1, false), (4, 1, false), (5, 1, false), (6, 1, false)], 7, [.str [], .int .i64 0, .sl 1 [], .sl 3 [], .int .i64 0, .int .i64 0, .int .i64 0]⟩,
  ⟨.st [(0, 1, false), (1, 1, false), (2, 1, false), (3, 1, false), (4, 1, false), (5, 1, false), (6, 1, false)], 7, [.str [], .int .i64 0, .sl 1 [], .sl 3 [], .int .i64 0, .int .i64 0, .int .i64 0]⟩,
  ⟨.fn, 1, [.nilf]⟩,
  ⟨.fn, 1, [.nilf]⟩,
  ⟨.un, 0, []⟩,
  ⟨.fn, 1, [.nilf]⟩,
  ⟨.fn, 1, [.nilf]⟩,
  ⟨.st [(0, 1, false), (1, 5, true), (6, 1, false), (7, 1, false), (8, 1, false), (9, 1, false), (10, 1, false), (11, 1, false), (12, 1, false)], 13, [.int .i64 0, .int .i64 0, .int .i64 0, .int .i64 0, .int .i64 0, .sl 1 [], .int .i64 0, .int .i64 0, .int .i64 0, .int .i64 0, .int .i64 0, .int .i64 0, .sl 1 []]⟩,
  ⟨.fn, 1, [.nilf]⟩,
  ⟨.un, 0, []⟩,
  ⟨.fn, 1, [.nilf]⟩,
  ⟨.fn, 1, [.nilf]⟩,
  ⟨.fn, 1, [.nilf]⟩,
  ⟨.un, 0, []⟩,
  ⟨.fn, 1, [.nilf]⟩,
  ⟨.fn, 1, [.nilf]⟩,
  ⟨.fn, 1, [.nilf]⟩,
  ⟨.un, 0, []⟩,
  ⟨.fn, 1, [.nilf]⟩,
  ⟨.fn, 1, [.nilf]⟩,
  ⟨.fn, 1, [.nilf]⟩,
  ⟨.sl 163 3 40, 1, [.sl 3 []]⟩,
  ⟨.fn, 1, [.nilf]⟩,
  ⟨.sl 76 5 56, 1, [.sl 5 []]⟩,
  ⟨.un, 0, []⟩,
  ⟨.fn, 1, [.nilf]⟩,
  ⟨.sl 81 5 56, 1, [.sl 5 []]⟩,
  ⟨.un, 0, []⟩,
  ⟨.fn, 1, [.nilf]⟩,
  ⟨.sl 174 3 40, 1, [.sl 3 []]⟩,
  ⟨.fn, 1, [.nilf]⟩,
  ⟨.fn, 1, [.nilf]⟩,
  ⟨.fn, 1, [.nilf]⟩,
  ⟨.sl 176 2 2, 1, [.sl 2 []]⟩,
  ⟨.st [(0, 1, false), (1, 1, false), (2, 1, false), (3, 1, false), (4, 1, false)], 5, [.int .i64 0, .int .i64 0, .int .i64 0, .bool false, .sl 2 []]⟩,
  ⟨.st [(0, 1, false), (1, 1, false), (2, 1, false), (3, 1, false), (4, 1, false)], 5, [.int .i64 0, .int .i64 0, .int .i64 0, .bool false, .sl 2 []]⟩,
  ⟨.fn, 1, [.nilf]⟩,
  ⟨.fn, 1, [.nilf]⟩,
  ⟨.sl 177 2 2, 1, [.sl 2 []]⟩,
  ⟨.st [(0, 1, false), (1, 1, false), (2, 1, false), (3, 1, false), (4, 1, false)], 5, [.int .i64 0, .int .i64 0, .int .i64 0, .bool false, .sl 2 []]⟩,
  ⟨.st [(0, 1, false), (1, 1, false), (2, 1, false), (3, 1, false), (4, 1, false)], 5, [.int .i64 0, .int .i64 0, .int .i64 0, .bool false, .sl 2 []]⟩,
  ⟨.un, 0, []⟩,
  ⟨.fn, 1, [.nilf]⟩,
  ⟨.fn, 1, [.nilf]⟩,
  ⟨.sl 64 1 24, 1, [.sl 1 []]⟩,
  ⟨.un, 0, []⟩,
  ⟨.fn, 1, [.nilf]⟩,
  ⟨.sl 67 1 24, 1, [.sl 1 []]⟩,
  ⟨.un, 0, []⟩,
  ⟨.fn, 1, [.nilf]⟩,
  ⟨.fn, 1, [.nilf]⟩,
  ⟨.fn, 1, [.nilf]⟩,
  ⟨.st [(0, 1, false), (1, 1, false), (2, 1, false)], 3, [.int .i64 0, .int .i64 0, .int .i64 0]⟩,
  ⟨.st [(0, 1, false), (1, 1, false), (2, 1, false)], 3, [.int .i64 0, .int .i64 0, .int .i64 0]⟩,
  ⟨.un, 0, []⟩,
  ⟨.fn, 1, [.nilf]⟩,
  ⟨.un, 0, []⟩,
  ⟨.fn, 1, [.nilf]⟩,
  ⟨.fn, 1, [.nilf]⟩,
  ⟨.fn, 1, [.nilf]⟩,
  ⟨.fn, 1, [.nilf]⟩,
  ⟨.sl 4 1 1, 1, [.sl 1 []]⟩,
  ⟨.ptr, 1, [.nilp]⟩,
  ⟨.un, 0, []⟩,
  ⟨.fn, 1, [.nilf]⟩,
  ⟨.fn, 1, [.nilf]⟩,
  ⟨.fn, 1, [.nilf]⟩,
  ⟨.fn, 1, [.nilf]⟩,
  ⟨.fn, 1, [.nilf]⟩,
  ⟨.un, 0, []⟩,
  ⟨.fn, 1, [.nilf]⟩,
  ⟨.fn, 1, [.nilf]⟩,
  ⟨.sl 121 5 56, 1, [.sl 5 []]⟩,
  ⟨.fn, 1, [.nilf]⟩,
  ⟨.ptr, 1, [.nilp]⟩,
  ⟨.sl 3 1 8, 1, [.sl 1 []]⟩,
  ⟨.sl 215 3 32, 1, [.sl 3 []]⟩,
  ⟨.st [(0, 1, false), (1, 1, false), (2, 1, false), (3, 1, false), (4, 1, false), (5, 1, false), (6, 1, false)], 7, [.int .i64 0, .sl 1 [], .sl 3 [], .bool false, .bool false, .int .i64 0, .sl 1 []]⟩,
  ⟨.st [(0, 1, false), (1, 1, false), (2, 1, false), (3, 1, false), (4, 1, false), (5, 1, false), (6, 1, false)], 7, [.int .i64 0, .sl 1 [], .sl 3 [], .bool false, .bool false, .int .i64 0, .sl 1 []]⟩,
  ⟨.st [(0, 1, false), (1, 1, false), (2, 1, false), (3, 1, false), (4, 1, false)], 5, [.int .i64 0, .int .i64 0, .int .i64 0, .int .u8 0, .sl 1 []]⟩,
  ⟨.st [(0, 1, false), (1, 1, false), (2, 1, false), (3, 1, false), (4, 1, false)], 5, [.int .i64 0, .int .i64 0, .int .i64 0, .int .u8 0, .sl 1 []]⟩,
  ⟨.fn, 1, [.nilf]⟩,
  ⟨.fn, 1, [.nilf]⟩,
  ⟨.fn, 1, [.nilf]⟩,
  ⟨.fn, 1, [.nilf]⟩,
  ⟨.fn, 1, [.nilf]⟩,
  ⟨.fn, 1, [.nilf]⟩,
  ⟨.fn, 1, [.nilf]⟩,
  ⟨.st [(0, 1, false), (1, 1, false), (2, 1, false)], 3, [.sl 1 [], .int .i64 0, .int .i64 0]⟩,
  ⟨.st [(0, 1, false), (1, 1, false), (2, 1, false)], 3, [.sl 1 [], .int .i64 0, .int .i64 0]⟩,
  ⟨.fn, 1, [.nilf]⟩,
  ⟨.fn, 1, [.nilf]⟩,
  ⟨.ptr, 1, [.nilp]⟩,
  ⟨.fn, 1, [.nilf]⟩,
  ⟨.st [(0, 3, true), (3, 5, true)], 8, [.sl 7 [], .sl 1 [], .int .i64 0, .int .i64 0, .int .i64 0, .int .i64 0, .int .i64 0, .sl 1 []]⟩,
  ⟨.st [(0, 3, true), (3, 5, true)], 8, [.sl 7 [], .sl 1 [], .int .i64 0, .int .i64 0, .int .i64 0, .int .i64 0, .int .i64 0, .sl 1 []]⟩,
  ⟨.fn, 1, [.nilf]⟩,
  ⟨.map 3 137, 1, [.nilm]⟩,
  ⟨.fn, 1, [.nilf]⟩,
  ⟨.sl 144 5 40, 1, [.sl 5 []]⟩,
  ⟨.fn, 1, [.nilf]⟩,
  ⟨.ptr, 1, [.nilp]⟩,
  ⟨.st [(0, 1, false), (1, 1, false), (2, 1, false), (3, 1, false), (4, 1, false)], 5, [.nilp, .int .i64 0, .int .i64 0, .int .i64 0, .int .i64 0]⟩,
  ⟨.st [(0, 1, false), (1, 1, false), (2, 1, false), (3, 1, false), (4, 1, false)], 5, [.nilp, .int .i64 0, .int .i64 0, .int .i64 0, .int .i64 0]⟩,
  ⟨.fn, 1, [.nilf]⟩,
  ⟨.int .u64, 1, [.int .u64 0]⟩,
  ⟨.fn, 1, [.nilf]⟩,
  ⟨.fn, 1, [.nilf]⟩,
  ⟨.fn, 1, [.nilf]⟩,
  ⟨.fn, 1, [.nilf]⟩,
  ⟨.fn, 1, [.nilf]⟩,
  ⟨.fn, 1, [.nilf]⟩,
  ⟨.ptr, 1, [.nilp]⟩,
  ⟨.fn, 1, [.nilf]⟩,
  ⟨.fn, 1, [.nilf]⟩,
  ⟨.fn, 1, [.nilf]⟩,
  ⟨.fn, 1, [.nilf]⟩,
  ⟨.ptr, 1, [.nilp]⟩,
  ⟨.st [(0, 1, false), (1, 1, false)], 2, [.sl 1 [], .bool false]⟩,
  ⟨.st [(0, 1, false), (1, 1, false)], 2, [.sl 1 [], .bool false]⟩,
  ⟨.fn, 1, [.nilf]⟩,
  ⟨.st [(0, 1, false), (1, 1, false), (2, 1, false)], 3, [.int .i64 0, .bool false, .sl 2 []]⟩,
  ⟨.st [(0, 1, false), (1, 1, false), (2, 1, false)], 3, [.int .i64 0, .bool false, .sl 2 []]⟩,
  ⟨.ptr, 1, [.nilp]⟩,
  ⟨.st [(0, 1, false), (1, 1, false), (2, 1, false)], 3, [.sl 1 [], .int .i64 0, .bool false]⟩,
  ⟨.st [(0, 1, false), (1, 1, false), (2, 1, false)], 3, [.sl 1 [], .int .i64 0, .bool false]⟩,
  ⟨.map 3 169, 1, [.nilm]⟩,
  ⟨.fn, 1, [.nilf]⟩,
  ⟨.fn, 1, [.nilf]⟩,
  ⟨.fn, 1, [.nilf]⟩,
  ⟨.fn, 1, [.nilf]⟩,
  ⟨.fn, 1, [.nilf]⟩,
  ⟨.st [(0, 1, false), (1, 1, false), (2, 1, false)], 3, [.int .i64 0, .bool false, .sl 2 []]⟩,
  ⟨.st [(0, 1, false), (1, 1, false), (2, 1, false)], 3, [.int .i64 0, .bool false, .sl 2 []]⟩,
  ⟨.st [(0, 1, false), (1, 1, false)], 2, [.int .u8 0, .int .u8 0]⟩,
  ⟨.st [(0, 1, false), (1, 1, false)], 2, [.int .u8 0, .int .u8 0]⟩,
  ⟨.st [(0, 1, false), (1, 1, false)], 2, [.int .u8 0, .int .u8 0]⟩,
  ⟨.ptr, 1, [.nilp]⟩,
  ⟨.sl 185 2 16, 1, [.sl 2 []]⟩,
  ⟨.sl 185 2 16, 1, [.sl 2 []]⟩,
  ⟨.st [(0, 1, false), (1, 1, false), (2, 1, false), (3, 1, false)], 4, [.sl 1 [], .int .i64 0, .sl 3 [], .sl 2 []]⟩,
  ⟨.st [(0, 1, false), (1, 1, false), (2, 1, false), (3, 1, false)], 4, [.sl 1 [], .int .i64 0, .sl 3 [], .sl 2 []]⟩,
  ⟨.fn, 1, [.nilf]⟩,
  ⟨.st [(0, 1, false), (1, 1, false)], 2, [.int .i64 0, .int .i64 0]⟩,
  ⟨.st [(0, 1, false), (1, 1, false)], 2, [.int .i64 0, .int .i64 0]⟩,
  ⟨.fn, 1, [.nilf]⟩,
  ⟨.un, 0, []⟩,
  ⟨.fn, 1, [.nilf]⟩,
  ⟨.sl 193 401 3224, 1, [.sl 401 []]⟩,
  ⟨.arr 3 1 200, 200, List.replicate 200 (.int .i64 0)⟩,
  ⟨.arr 3 1 200, 200, List.replicate 200 (.int .i64 0)⟩,
  ⟨.st [(0, 1, false), (1, 200, true), (201, 200, true)], 401, [.sl 5 []] ++ List.replicate 200 (.int .i64 0) ++ List.replicate 200 (.int .i64 0)⟩,
  ⟨.st [(0, 1, false), (1, 200, true), (201, 200, true)], 401, [.sl 5 []] ++ List.replicate 200 (.int .i64 0) ++ List.replicate 200 (.int .i64 0)⟩,
  ⟨.fn, 1, [.nilf]⟩,
  ⟨.ptr, 1, [.nilp]⟩,
  ⟨.fn, 1, [.nilf]⟩,
  ⟨.fn, 1, [.nilf]⟩,
  ⟨.fn, 1, [.nilf]⟩,
  ⟨.ptr, 1, [.nilp]⟩,
  ⟨.st [(0, 1, false), (1, 1, false)], 2, [.sl 5 [], .sl 1 []]⟩,
  ⟨.st [(0, 1, false), (1, 1, false)], 2, [.sl 5 [], .sl 1 []]⟩,
  ⟨.fn, 1, [.nilf]⟩,
  ⟨.map 3 206, 1, [.nilm]⟩,
  ⟨.st [(0, 1, false), (1, 1, false), (2, 1, false), (3, 1, false), (4, 1, false), (5, 1, false)], 6, [.int .i64 0, .nilm, .bool false, .bool false, .int .i64 0, .sl 1 []]⟩,
  ⟨.st [(0, 1, false), (1, 1, false), (2, 1, false), (3, 1, false), (4, 1, false), (5, 1, false)], 6, [.int .i64 0, .nilm, .bool false, .bool false, .int .i64 0, .sl 1 []]⟩,
  ⟨.sl 210 513 513, 1, [.sl 513 []]⟩,
  ⟨.fn, 1, [.nilf]⟩,
  ⟨.arr 5 1 512, 512, List.replicate 512 (.int .u8 0)⟩,
  ⟨.st [(0, 512, true), (512, 1, false)], 513, List.replicate 512 (.int .u8 0) ++ [.bool false]⟩,
  ⟨.st [(0, 512, true), (512, 1, false)], 513, List.replicate 512 (.int .u8 0) ++ [.bool false]⟩,
  ⟨.fn, 1, [.nilf]⟩,
  ⟨.fn, 1, [.nilf]⟩,
  ⟨.fn, 1, [.nilf]⟩,
  ⟨.st [(0, 1, false), (1, 1, false), (2, 1, false)], 3, [.int .i64 0, .str [], .bool false]⟩,
  ⟨.st [(0, 1, false), (1, 1, false), (2, 1, false)], 3, [.int .i64 0, .str [], .bool false]⟩,
  ⟨.fn, 1, [.nilf]⟩,
  ⟨.fn, 1, [.nilf]⟩,
  ⟨.fn, 1, [.nilf]⟩,
  ⟨.fn, 1, [.nilf]⟩,
  ⟨.ptr, 1, [.nilp]⟩,
  ⟨.fn, 1, [.nilf]⟩,
  ⟨.int .u64, 1, [.int .u64 0]⟩,
  ⟨.arr 3 1 11, 11, [.int .i64 0, .int .i64 0, .int .i64 0, .int .i64 0, .int .i64 0, .int .i64 0, .int .i64 0, .int .i64 0, .int .i64 0, .int .i64 0, .int .i64 0]⟩,
  ⟨.fn, 1, [.nilf]⟩,
  ⟨.fn, 1, [.nilf]⟩,
  ⟨.fn, 1, [.nilf]⟩,
  ⟨.st [(0, 1, false), (1, 1, false)], 2, [.sl 1 [], .bool false]⟩,
  ⟨.st [(0, 1, false), (1, 1, false)], 2, [.sl 1 [], .bool false]⟩,
  ⟨.fn, 1, [.nilf]⟩,
  ⟨.un, 0, []⟩,
  ⟨.fn, 1, [.nilf]⟩,
  ⟨.fn, 1, [.nilf]⟩,
  ⟨.fn, 1, [.nilf]⟩,
  ⟨.ptr, 1, [.nilp]⟩,
  ⟨.fn, 1, [.nilf]⟩,
  ⟨.un, 0, []⟩,
  ⟨.fn, 1, [.nilf]⟩,
  ⟨.ptr, 1, [.nilp]⟩,
  ⟨.fn, 1, [.nilf]⟩,
  ⟨.ptr, 1, [.nilp]⟩,
  ⟨.st [(0, 1, false), (1, 1, false), (2, 1, false)], 3, [.sl 1 [], .int .i64 0, .int .i64 0]⟩,
  ⟨.st [(0, 1, false), (1, 1, false), (2, 1, false)], 3, [.sl 1 [], .int .i64 0, .int .i64 0]⟩,
  ⟨.un, 0, []⟩,
  ⟨.fn, 1, [.nilf]⟩,
  ⟨.ptr, 1, [.nilp]⟩,
  ⟨.un, 0, []⟩,
  ⟨.fn, 1, [.nilf]⟩,
  ⟨.ptr, 1, [.nilp]⟩,
  ⟨.fn, 1, [.nilf]⟩,
  ⟨.fn, 1, [.nilf]⟩,
  ⟨.fn, 1, [.nilf]⟩,
  ⟨.fn, 1, [.nilf]⟩,
  ⟨.map 5 3, 1, [.nilm]⟩,
  ⟨.fn, 1, [.nilf]⟩,
  ⟨.un, 0, []⟩,
  ⟨.fn, 1, [.nilf]⟩,
  ⟨.fn, 1, [.nilf]⟩,
  ⟨.fn, 1, [.nilf]⟩,
  ⟨.fn, 1, [.nilf]⟩,
  ⟨.fn, 1, [.nilf]⟩,
  ⟨.map 5 5, 1, [.nilm]⟩,
  ⟨.fn, 1, [.nilf]⟩,
  ⟨.fn, 1, [.nilf]⟩,
  ⟨.int .i64, 1, [.int .i64 0]⟩,
  ⟨.un, 0, []⟩,
  ⟨.fn, 1, [.nilf]⟩,
  ⟨.fn, 1, [.nilf]⟩,
  ⟨.fn, 1, [.nilf]⟩,
  ⟨.fn, 1, [.nilf]⟩,
  ⟨.un, 0, []⟩,
  ⟨.fn, 1, [.nilf]⟩,
  ⟨.fn, 1, [.nilf]⟩,
  ⟨.int .u32, 1, [.int .u32 0]⟩,
  ⟨.fn, 1, [.nilf]⟩,
  ⟨.un, 0, []⟩,
  ⟨.fn, 1, [.nilf]⟩,
  ⟨.fn, 1, [.nilf]⟩,
  ⟨.un, 0, []⟩,
  ⟨.fn, 1, [.nilf]⟩,
  ⟨.int .u64, 1, [.int .u64 0]⟩,
  ⟨.fn, 1, [.nilf]⟩,
  ⟨.fn, 1, [.nilf]⟩,
  ⟨.fn, 1, [.nilf]⟩,
  ⟨.fn, 1, [.nilf]⟩,
  ⟨.fn, 1, [.nilf]⟩,
  ⟨.ptr, 1, [.nilp]⟩,
  ⟨.un, 0, []⟩,
  ⟨.fn, 1, [.nilf]⟩,
  ⟨.st [(0, 1, false), (1, 1, false), (2, 1, false), (3, 1, false)], 4, [.nilp, .nilp, .nilp, .str []]⟩,
  ⟨.st [(0, 1, false), (1, 1, false), (2, 1, false), (3, 1, false)], 4, [.nilp, .nilp, .nilp, .str []]⟩,
  ⟨.arr 16 1 0, 0, []⟩,
  ⟨.un, 0, []⟩,
  ⟨.un, 0, []⟩,
  ⟨.int .u8, 1, [.int .u8 0]⟩,
  ⟨.int .u8, 1, [.int .u8 0]⟩,
  ⟨.fn, 1, [.nilf]⟩,
  ⟨.ptr, 1, [.nilp]⟩,
  ⟨.int .i32, 1, [.int .i32 0]⟩,
  ⟨.int .i32, 1, [.int .i32 0]⟩,
  ⟨.st [(0, 1, false), (1, 1, false), (2, 1, false), (3, 1, false), (4, 1, false), (5, 1, false), (6, 1, false), (7, 1, false), (8, 1, false), (9, 1, false), (10, 1, false)], 11, [.int .u64 0, .int .u64 0, .int .u32 0, .int .u8 0, .int .u8 0, .int .u8 0, .int .u8 0, .nilf, .nilp, .int .i32 0, .int .i32 0]⟩,
  ⟨.st [(0, 1, false), (1, 1, false), (2, 1, false), (3, 1, false), (4, 1, false), (5, 1, false), (6, 1, false), (7, 1, false), (8, 1, false), (9, 1, false), (10, 1, false)], 11, [.int .u64 0, .int .u64 0, .int .u32 0, .int .u8 0, .int .u8 0, .int .u8 0, .int .u8 0, .nilf, .nilp, .int .i32 0, .int .i32 0]⟩,
  ⟨.un, 0, []⟩]
  ok := by kernel_rfl
set_option maxRecDepth 100000
@[go_sem ↓] theorem y1 : tabs.ty 1 = ⟨.fn, 1, [.nilf]⟩ := rfl
@[go_sem ↓] theorem y2 : tabs.ty 2 = ⟨.int .i64, 1, [.int .i64 0]⟩ := rfl
@[go_sem ↓] theorem y3 : tabs.ty 3 = ⟨.int .i64, 1, [.int .i64 0]⟩ := rfl
@[go_sem ↓] theorem y4 : tabs.ty 4 = ⟨.bool, 1, [.bool false]⟩ := rfl
@[go_sem ↓] theorem y5 : tabs.ty 5 = ⟨.int .u8, 1, [.int .u8 0]⟩ := rfl
@[go_sem ↓] theorem y6 : tabs.ty 6 = ⟨.int .u8, 1, [.int .u8 0]⟩ := rfl
@[go_sem ↓] theorem y7 : tabs.ty 7 = ⟨.st [(0, 1, false), (1, 1, false), (2, 1, false), (3, 1, false)], 4, [.int .i64 0, .int .i64 0, .bool false, .int .u8 0]⟩ := rfl
@[go_sem ↓] theorem y8 : tabs.ty 8 = ⟨.st [(0, 1, false), (1, 1, false), (2, 1, false), (3, 1, false)], 4, [.int .i64 0, .int .i64 0, .bool false, .int .u8 0]⟩ := rfl
@[go_sem ↓] theorem y9 : tabs.ty 9 = ⟨.str, 1, [.str []]⟩ := rfl
@[go_sem ↓] theorem y10 : tabs.ty 10 = ⟨.str, 1, [.str []]⟩ := rfl
@[go_sem ↓] theorem y11 : tabs.ty 11 = ⟨.str, 1, [.str []]⟩ := rfl
@[go_sem ↓] theorem y12 : tabs.ty 12 = ⟨.int .u64, 1, [.int .u64 0]⟩ := rfl
@[go_sem ↓] theorem y13 : tabs.ty 13 = ⟨.st [(0, 1, false), (1, 1, false)], 2, [.str [], .int .u64 0]⟩ := rfl
@[go_sem ↓] theorem y14 : tabs.ty 14 = ⟨.st [(0, 1, false), (1, 1, false)], 2, [.str [], .int .u64 0]⟩ := rfl
@[go_sem ↓] theorem y15 : tabs.ty 15 = ⟨.ptr, 1, [.nilp]⟩ := rfl
@[go_sem ↓] theorem y16 : tabs.ty 16 = ⟨.ptr, 1, [.nilp]⟩ := rfl
@[go_sem ↓] theorem y17 : tabs.ty 17 = ⟨.ptr, 1, [.nilp]⟩ := rfl
@[go_sem ↓] theorem y18 : tabs.ty 18 = ⟨.st [(0, 1, false)], 1, [.nilp]⟩ := rfl
@[go_sem ↓] theorem y19 : tabs.ty 19 = ⟨.st [(0, 1, false)], 1, [.nilp]⟩ := rfl
@[go_sem ↓] theorem y20 : tabs.ty 20 = ⟨.ifc, 1, [.nili]⟩ := rfl
@[go_sem ↓] theorem y21 : tabs.ty 21 = ⟨.int .i32, 1, [.int .i32 0]⟩ := rfl
@[go_sem ↓] theorem y22 : tabs.ty 22 = ⟨.sl 42 7 96, 1, [.sl 7 []]⟩ := rfl
@[go_sem ↓] theorem y23 : tabs.ty 23 = ⟨.sl 9 1 16, 1, [.sl 1 []]⟩ := rfl
@[go_sem ↓] theorem y24 : tabs.ty 24 = ⟨.st [(0, 1, false), (1, 1, false), (2, 1, false)], 3, [.sl 7 [], .sl 1 [], .int .i64 0]⟩ := rfl
@[go_sem ↓] theorem y25 : tabs.ty 25 = ⟨.st [(0, 1, false), (1, 1, false), (2, 1, false)], 3, [.sl 7 [], .sl 1 [], .int .i64 0]⟩ := rfl
@[go_sem ↓] theorem y26 : tabs.ty 26 = ⟨.sl 35 13 136, 1, [.sl 13 []]⟩ := rfl
@[go_sem ↓] theorem y27 : tabs.ty 27 = ⟨.fn, 1, [.nilf]⟩ := rfl
@[go_sem ↓] theorem y28 : tabs.ty 28 = ⟨.fn, 1, [.nilf]⟩ := rfl
@[go_sem ↓] theorem y29 : tabs.ty 29 = ⟨.sl 33 1 24, 1, [.sl 1 []]⟩ := rfl
@[go_sem ↓] theorem y30 : tabs.ty 30 = ⟨.st [(0, 1, false), (1, 1, false), (2, 1, false), (3, 1, false), (4, 1, false)], 5, [.int .i64 0, .int .i64 0, .int .i64 0, .int .i64 0, .sl 1 []]⟩ := rfl
@[go_sem ↓] theorem y31 : tabs.ty 31 = ⟨.st [(0, 1, false), (1, 1, false), (2, 1, false), (3, 1, false), (4, 1, false)], 5, [.int .i64 0, .int .i64 0, .int .i64 0, .int .i64 0, .sl 1 []]⟩ := rfl
@[go_sem ↓] theorem y32 : tabs.ty 32 = ⟨.fn, 1, [.nilf]⟩ := rfl
@[go_sem ↓] theorem y33 : tabs.ty 33 = ⟨.sl 5 1 1, 1, [.sl 1 []]⟩ := rfl
@[go_sem ↓] theorem y34 : tabs.ty 34 = ⟨.st [(0, 1, false), (1, 5, true), (6, 1, false), (7, 1, false), (8, 1, false), (9, 1, false), (10, 1, false), (11, 1, false), (12, 1, false)], 13, [.int .i64 0, .int .i64 0, .int .i64 0, .int .i64 0, .int .i64 0, .sl 1 [], .int .i64 0, .int .i64 0, .int .i64 0, .int .i64 0, .int .i64 0, .int .i64 0, .sl 1 []]⟩ := rfl
@[go_sem ↓] theorem y35 : tabs.ty 35 = ⟨.st [(0, 1, false), (1, 5, true), (6, 1, false), (7, 1, false), (8, 1, false), (9, 1, false), (10, 1, false), (11, 1, false), (12, 1, false)], 13, [.int .i64 0, .int .i64 0, .int .i64 0, .int .i64 0, .int .i64 0, .sl 1 [], .int .i64 0, .int .i64 0, .int .i64 0, .int .i64 0, .int .i64 0, .int .i64 0, .sl 1 []]⟩ := rfl
@[go_sem ↓] theorem y36 : tabs.ty 36 = ⟨.fn, 1, [.nilf]⟩ := rfl
@[go_sem ↓] theorem y37 : tabs.ty 37 = ⟨.int .i64, 1, [.int .i64 0]⟩ := rfl
@[go_sem ↓] theorem y39 : tabs.ty 39 = ⟨.fn, 1, [.nilf]⟩ := rfl
@[go_sem ↓] theorem y40 : tabs.ty 40 = ⟨.sl 130 3 40, 1, [.sl 3 []]⟩ := rfl
@[go_sem ↓] theorem y41 : tabs.ty 41 = ⟨.st [(0, 1, false), (1, 1, false), (2, 1, false), (3, 1, false), (4, 1, false), (5, 1, false), (6, 1, false)], 7, [.str [], .int .i64 0, .sl 1 [], .sl 3 [], .int .i64 0, .int .i64 0, .int .i64 0]⟩ := rfl
@[go_sem ↓] theorem y42 : tabs.ty 42 = ⟨.st [(0, 1, false), (1, 1, false), (2, 1, false), (3, 1, false), (4, 1, false), (5, 1, false), (6, 1, false)], 7, [.str [], .int .i64 0, .sl 1 [], .sl 3 [], .int .i64 0, .int .i64 0, .int .i64 0]⟩ := rfl
@[go_sem ↓] theorem y43 : tabs.ty 43 = ⟨.fn, 1, [.nilf]⟩ := rfl
@[go_sem ↓] theorem y44 : tabs.ty 44 = ⟨.fn, 1, [.nilf]⟩ := rfl
@[go_sem ↓] theorem y46 : tabs.ty 46 = ⟨.fn, 1, [.nilf]⟩ := rfl
@[go_sem ↓] theorem y47 : tabs.ty 47 = ⟨.fn, 1, [.nilf]⟩ := rfl
@[go_sem ↓] theorem y48 : tabs.ty 48 = ⟨.st [(0, 1, false), (1, 5, true), (6, 1, false), (7, 1, false), (8, 1, false), (9, 1, false), (10, 1, false), (11, 1, false), (12, 1, false)], 13, [.int .i64 0, .int .i64 0, .int .i64 0, .int .i64 0, .int .i64 0, .sl 1 [], .int .i64 0, .int .i64 0, .int .i64 0, .int .i64 0, .int .i64 0, .int .i64 0, .sl 1 []]⟩ := rfl
@[go_sem ↓] theorem y49 : tabs.ty 49 = ⟨.fn, 1, [.nilf]⟩ := rfl
@[go_sem ↓] theorem y51 : tabs.ty 51 = ⟨.fn, 1, [.nilf]⟩ := rfl
@[go_sem ↓] theorem y52 : tabs.ty 52 = ⟨.fn, 1, [.nilf]⟩ := rfl
@[go_sem ↓] theorem y53 : tabs.ty 53 = ⟨.fn, 1, [.nilf]⟩ := rfl
@[go_sem ↓] theorem y55 : tabs.ty 55 = ⟨.fn, 1, [.nilf]⟩ := rfl
@[go_sem ↓] theorem y56 : tabs.ty 56 = ⟨.fn, 1, [.nilf]⟩ := rfl
@[go_sem ↓] theorem y57 : tabs.ty 57 = ⟨.fn, 1, [.nilf]⟩ := rfl
@[go_sem ↓] theorem y59 : tabs.ty 59 = ⟨.fn, 1, [.nilf]⟩ := rfl
@[go_sem ↓] theorem y60 : tabs.ty 60 = ⟨.fn, 1, [.nilf]⟩ := rfl
@[go_sem ↓] theorem y61 : tabs.ty 61 = ⟨.fn, 1, [.nilf]⟩ := rfl
@[go_sem ↓] theorem y62 : tabs.ty 62 = ⟨.sl 163 3 40, 1, [.sl 3 []]⟩ := rfl
@[go_sem ↓] theorem y63 : tabs.ty 63 = ⟨.fn, 1, [.nilf]⟩ := rfl
@[go_sem ↓] theorem y64 : tabs.ty 64 = ⟨.sl 76 5 56, 1, [.sl 5 []]⟩ := rfl
@[go_sem ↓] theorem y66 : tabs.ty 66 = ⟨.fn, 1, [.nilf]⟩ := rfl
@[go_sem ↓] theorem y67 : tabs.ty 67 = ⟨.sl 81 5 56, 1, [.sl 5 []]⟩ := rfl
@[go_sem ↓] theorem y69 : tabs.ty 69 = ⟨.fn, 1, [.nilf]⟩ := rfl
@[go_sem ↓] theorem y70 : tabs.ty 70 = ⟨.sl 174 3 40, 1, [.sl 3 []]⟩ := rfl
@[go_sem ↓] theorem y71 : tabs.ty 71 = ⟨.fn, 1, [.nilf]⟩ := rfl
@[go_sem ↓] theorem y72 : tabs.ty 72 = ⟨.fn, 1, [.nilf]⟩ := rfl
@[go_sem ↓] theorem y73 : tabs.ty 73 = ⟨.fn, 1, [.nilf]⟩ := rfl
@[go_sem ↓] theorem y74 : tabs.ty 74 = ⟨.sl 176 2 2, 1, [.sl 2 []]⟩ := rfl
@[go_sem ↓] theorem y75 : tabs.ty 75 = ⟨.st [(0, 1, false), (1, 1, false), (2, 1, false), (3, 1, false), (4, 1, false)], 5, [.int .i64 0, .int .i64 0, .int .i64 0, .bool false, .sl 2 []]⟩ := rfl
@[go_sem ↓] theorem y76 : tabs.ty 76 = ⟨.st [(0, 1, false), (1, 1, false), (2, 1, false), (3, 1, false), (4, 1, false)], 5, [.int .i64 0, .int .i64 0, .int .i64 0, .bool false, .sl 2 []]⟩ := rfl
@[go_sem ↓] theorem y77 : tabs.ty 77 = ⟨.fn, 1, [.nilf]⟩ := rfl
@[go_sem ↓] theorem y78 : tabs.ty 78 = ⟨.fn, 1, [.nilf]⟩ := rfl
@[go_sem ↓] theorem y79 : tabs.ty 79 = ⟨.sl 177 2 2, 1, [.sl 2 []]⟩ := rfl
@[go_sem ↓] theorem y80 : tabs.ty 80 = ⟨.st [(0, 1, false), (1, 1, false), (2, 1, false), (3, 1, false), (4, 1, false)], 5, [.int .i64 0, .int .i64 0, .int .i64 0, .bool false, .sl 2 []]⟩ := rfl
@[go_sem ↓] theorem y81 : tabs.ty 81 = ⟨.st [(0, 1, false), (1, 1, false), (2, 1, false), (3, 1, false), (4, 1, false)], 5, [.int .i64 0, .int .i64 0, .int .i64 0, .bool false, .sl 2 []]⟩ := rfl
@[go_sem ↓] theorem y83 : tabs.ty 83 = ⟨.fn, 1, [.nilf]⟩ := rfl
@[go_sem ↓] theorem y84 : tabs.ty 84 = ⟨.fn, 1, [.nilf]⟩ := rfl
@[go_sem ↓] theorem y85 : tabs.ty 85 = ⟨.sl 64 1 24, 1, [.sl 1 []]⟩ := rfl
@[go_sem ↓] theorem y87 : tabs.ty 87 = ⟨.fn, 1, [.nilf]⟩ := rfl
@[go_sem ↓] theorem y88 : tabs.ty 88 = ⟨.sl 67 1 24, 1, [.sl 1 []]⟩ := rfl
@[go_sem ↓] theorem y90 : tabs.ty 90 = ⟨.fn, 1, [.nilf]⟩ := rfl
@[go_sem ↓] theorem y91 : tabs.ty 91 = ⟨.fn, 1, [.nilf]⟩ := rfl
@[go_sem ↓] theorem y92 : tabs.ty 92 = ⟨.fn, 1, [.nilf]⟩ := rfl
@[go_sem ↓] theorem y93 : tabs.ty 93 = ⟨.st [(0, 1, false), (1, 1, false), (2, 1, false)], 3, [.int .i64 0, .int .i64 0, .int .i64 0]⟩ := rfl
@[go_sem ↓] theorem y94 : tabs.ty 94 = ⟨.st [(0, 1, false), (1, 1, false), (2, 1, false)], 3, [.int .i64 0, .int .i64 0, .int .i64 0]⟩ := rfl
@[go_sem ↓] theorem y96 : tabs.ty 96 = ⟨.fn, 1, [.nilf]⟩ := rfl
@[go_sem ↓] theorem y98 : tabs.ty 98 = ⟨.fn, 1, [.nilf]⟩ := rfl
@[go_sem ↓] theorem y99 : tabs.ty 99 = ⟨.fn, 1, [.nilf]⟩ := rfl
@[go_sem ↓] theorem y100 : tabs.ty 100 = ⟨.fn, 1, [.nilf]⟩ := rfl
@[go_sem ↓] theorem y101 : tabs.ty 101 = ⟨.fn, 1, [.nilf]⟩ := rfl
@[go_sem ↓] theorem y102 : tabs.ty 102 = ⟨.sl 4 1 1, 1, [.sl 1 []]⟩ := rfl
@[go_sem ↓] theorem y103 : tabs.ty 103 = ⟨.ptr, 1, [.nilp]⟩ := rfl
@[go_sem ↓] theorem y105 : tabs.ty 105 = ⟨.fn, 1, [.nilf]⟩ := rfl
@[go_sem ↓] theorem y106 : tabs.ty 106 = ⟨.fn, 1, [.nilf]⟩ := rfl
@[go_sem ↓] theorem y107 : tabs.ty 107 = ⟨.fn, 1, [.nilf]⟩ := rfl
@[go_sem ↓] theorem y108 : tabs.ty 108 = ⟨.fn, 1, [.nilf]⟩ := rfl
@[go_sem ↓] theorem y109 : tabs.ty 109 = ⟨.fn, 1, [.nilf]⟩ := rfl
@[go_sem ↓] theorem y111 : tabs.ty 111 = ⟨.fn, 1, [.nilf]⟩ := rfl
@[go_sem ↓] theorem y112 : tabs.ty 112 = ⟨.fn, 1, [.nilf]⟩ := rfl
@[go_sem ↓] theorem y113 : tabs.ty 113 = ⟨.sl 121 5 56, 1, [.sl 5 []]⟩ := rfl
@[go_sem ↓] theorem y114 : tabs.ty 114 = ⟨.fn, 1, [.nilf]⟩ := rfl
@[go_sem ↓] theorem y115 : tabs.ty 115 = ⟨.ptr, 1, [.nilp]⟩ := rfl
@[go_sem ↓] theorem y116 : tabs.ty 116 = ⟨.sl 3 1 8, 1, [.sl 1 []]⟩ := rfl
@[go_sem ↓] theorem y117 : tabs.ty 117 = ⟨.sl 215 3 32, 1, [.sl 3 []]⟩ := rfl
@[go_sem ↓] theorem y118 : tabs.ty 118 = ⟨.st [(0, 1, false), (1, 1, false), (2, 1, false), (3, 1, false), (4, 1, false), (5, 1, false), (6, 1, false)], 7, [.int .i64 0, .sl 1 [], .sl 3 [], .bool false, .bool false, .int .i64 0, .sl 1 []]⟩ := rfl
@[go_sem ↓] theorem y119 : tabs.ty 119 = ⟨.st [(0, 1, false), (1, 1, false), (2, 1, false), (3, 1, false), (4, 1, false), (5, 1, false), (6, 1, false)], 7, [.int .i64 0, .sl 1 [], .sl 3 [], .bool false, .bool false, .int .i64 0, .sl 1 []]⟩ := rfl
@[go_sem ↓] theorem y120 : tabs.ty 120 = ⟨.st [(0, 1, false), (1, 1, false), (2, 1, false), (3, 1, false), (4, 1, false)], 5, [.int .i64 0, .int .i64 0, .int .i64 0, .int .u8 0, .sl 1 []]⟩ := rfl
@[go_sem ↓] theorem y121 : tabs.ty 121 = ⟨.st [(0, 1, false), (1, 1, false), (2, 1, false), (3, 1, false), (4, 1, false)], 5, [.int .i64 0, .int .i64 0, .int .i64 0, .int .u8 0, .sl 1 []]⟩ := rfl
@[go_sem ↓] theorem y122 : tabs.ty 122 = ⟨.fn, 1, [.nilf]⟩ := rfl
@[go_sem ↓] theorem y123 : tabs.ty 123 = ⟨.fn, 1, [.nilf]⟩ := rfl
@[go_sem ↓] theorem y124 : tabs.ty 124 = ⟨.fn, 1, [.nilf]⟩ := rfl
@[go_sem ↓] theorem y125 : tabs.ty 125 = ⟨.fn, 1, [.nilf]⟩ := rfl
@[go_sem ↓] theorem y126 : tabs.ty 126 = ⟨.fn, 1, [.nilf]⟩ := rfl
@[go_sem ↓] theorem y127 : tabs.ty 127 = ⟨.fn, 1, [.nilf]⟩ := rfl
@[go_sem ↓] theorem y128 : tabs.ty 128 = ⟨.fn, 1, [.nilf]⟩ := rfl
@[go_sem ↓] theorem y129 : tabs.ty 129 = ⟨.st [(0, 1, false), (1, 1, false), (2, 1, false)], 3, [.sl 1 [], .int .i64 0, .int .i64 0]⟩ := rfl
@[go_sem ↓] theorem y130 : tabs.ty 130 = ⟨.st [(0, 1, false), (1, 1, false), (2, 1, false)], 3, [.sl 1 [], .int .i64 0, .int .i64 0]⟩ := rfl
@[go_sem ↓] theorem y131 : tabs.ty 131 = ⟨.fn, 1, [.nilf]⟩ := rfl
@[go_sem ↓] theorem y132 : tabs.ty 132 = ⟨.fn, 1, [.nilf]⟩ := rfl
@[go_sem ↓] theorem y133 : tabs.ty 133 = ⟨.ptr, 1, [.nilp]⟩ := rfl
@[go_sem ↓] theorem y134 : tabs.ty 134 = ⟨.fn, 1, [.nilf]⟩ := rfl
@[go_sem ↓] theorem y135 : tabs.ty 135 = ⟨.st [(0, 3, true), (3, 5, true)], 8, [.sl 7 [], .sl 1 [], .int .i64 0, .int .i64 0, .int .i64 0, .int .i64 0, .int .i64 0, .sl 1 []]⟩ := rfl
@[go_sem ↓] theorem y136 : tabs.ty 136 = ⟨.st [(0, 3, true), (3, 5, true)], 8, [.sl 7 [], .sl 1 [], .int .i64 0, .int .i64 0, .int .i64 0, .int .i64 0, .int .i64 0, .sl 1 []]⟩ := rfl
@[go_sem ↓] theorem y137 : tabs.ty 137 = ⟨.fn, 1, [.nilf]⟩ := rfl
@[go_sem ↓] theorem y138 : tabs.ty 138 = ⟨.map 3 137, 1, [.nilm]⟩ := rfl
@[go_sem ↓] theorem y139 : tabs.ty 139 = ⟨.fn, 1, [.nilf]⟩ := rfl
@[go_sem ↓] theorem y140 : tabs.ty 140 = ⟨.sl 144 5 40, 1, [.sl 5 []]⟩ := rfl
@[go_sem ↓] theorem y141 : tabs.ty 141 = ⟨.fn, 1, [.nilf]⟩ := rfl
@[go_sem ↓] theorem y142 : tabs.ty 142 = ⟨.ptr, 1, [.nilp]⟩ := rfl
@[go_sem ↓] theorem y143 : tabs.ty 143 = ⟨.st [(0, 1, false), (1, 1, false), (2, 1, false), (3, 1, false), (4, 1, false)], 5, [.nilp, .int .i64 0, .int .i64 0, .int .i64 0, .int .i64 0]⟩ := rfl
@[go_sem ↓] theorem y144 : tabs.ty 144 = ⟨.st [(0, 1, false), (1, 1, false), (2, 1, false), (3, 1, false), (4, 1, false)], 5, [.nilp, .int .i64 0, .int .i64 0, .int .i64 0, .int .i64 0]⟩ := rfl
@[go_sem ↓] theorem y145 : tabs.ty 145 = ⟨.fn, 1, [.nilf]⟩ := rfl
@[go_sem ↓] theorem y146 : tabs.ty 146 = ⟨.int .u64, 1, [.int .u64 0]⟩ := rfl
@[go_sem ↓] theorem y147 : tabs.ty 147 = ⟨.fn, 1, [.nilf]⟩ := rfl
@[go_sem ↓] theorem y148 : tabs.ty 148 = ⟨.fn, 1, [.nilf]⟩ := rfl
@[go_sem ↓] theorem y149 : tabs.ty 149 = ⟨.fn, 1, [.nilf]⟩ := rfl
@[go_sem ↓] theorem y150 : tabs.ty 150 = ⟨.fn, 1, [.nilf]⟩ := rfl
@[go_sem ↓] theorem y151 : tabs.ty 151 = ⟨.fn, 1, [.nilf]⟩ := rfl
@[go_sem ↓] theorem y152 : tabs.ty 152 = ⟨.fn, 1, [.nilf]⟩ := rfl
@[go_sem ↓] theorem y153 : tabs.ty 153 = ⟨.ptr, 1, [.nilp]⟩ := rfl
@[go_sem ↓] theorem y154 : tabs.ty 154 = ⟨.fn, 1, [.nilf]⟩ := rfl
@[go_sem ↓] theorem y155 : tabs.ty 155 = ⟨.fn, 1, [.nilf]⟩ := rfl
@[go_sem ↓] theorem y156 : tabs.ty 156 = ⟨.fn, 1, [.nilf]⟩ := rfl
@[go_sem ↓] theorem y157 : tabs.ty 157 = ⟨.fn, 1, [.nilf]⟩ := rfl
@[go_sem ↓] theorem y158 : tabs.ty 158 = ⟨.ptr, 1, [.nilp]⟩ := rfl
@[go_sem ↓] theorem y159 : tabs.ty 159 = ⟨.st [(0, 1, false), (1, 1, false)], 2, [.sl 1 [], .bool false]⟩ := rfl
@[go_sem ↓] theorem y160 : tabs.ty 160 = ⟨.st [(0, 1, false), (1, 1, false)], 2, [.sl 1 [], .bool false]⟩ := rfl
@[go_sem ↓] theorem y161 : tabs.ty 161 = ⟨.fn, 1, [.nilf]⟩ := rfl
@[go_sem ↓] theorem y162 : tabs.ty 162 = ⟨.st [(0, 1, false), (1, 1, false), (2, 1, false)], 3, [.int .i64 0, .bool false, .sl 2 []]⟩ := rfl
@[go_sem ↓] theorem y163 : tabs.ty 163 = ⟨.st [(0, 1, false), (1, 1, false), (2, 1, false)], 3, [.int .i64 0, .bool false, .sl 2 []]⟩ := rfl
@[go_sem ↓] theorem y164 : tabs.ty 164 = ⟨.ptr, 1, [.nilp]⟩ := rfl
@[go_sem ↓] theorem y165 : tabs.ty 165 = ⟨.st [(0, 1, false), (1, 1, false), (2, 1, false)], 3, [.sl 1 [], .int .i64 0, .bool false]⟩ := rfl
@[go_sem ↓] theorem y166 : tabs.ty 166 = ⟨.st [(0, 1, false), (1, 1, false), (2, 1, false)], 3, [.sl 1 [], .int .i64 0, .bool false]⟩ := rfl
@[go_sem ↓] theorem y167 : tabs.ty 167 = ⟨.map 3 169, 1, [.nilm]⟩ := rfl
@[go_sem ↓] theorem y168 : tabs.ty 168 = ⟨.fn, 1, [.nilf]⟩ := rfl
@[go_sem ↓] theorem y169 : tabs.ty 169 = ⟨.fn, 1, [.nilf]⟩ := rfl
@[go_sem ↓] theorem y170 : tabs.ty 170 = ⟨.fn, 1, [.nilf]⟩ := rfl
@[go_sem ↓] theorem y171 : tabs.ty 171 = ⟨.fn, 1, [.nilf]⟩ := rfl
@[go_sem ↓] theorem y172 : tabs.ty 172 = ⟨.fn, 1, [.nilf]⟩ := rfl
@[go_sem ↓] theorem y173 : tabs.ty 173 = ⟨.st [(0, 1, false), (1, 1, false), (2, 1, false)], 3, [.int .i64 0, .bool false, .sl 2 []]⟩ := rfl
@[go_sem ↓] theorem y174 : tabs.ty 174 = ⟨.st [(0, 1, false), (1, 1, false), (2, 1, false)], 3, [.int .i64 0, .bool false, .sl 2 []]⟩ := rfl
@[go_sem ↓] theorem y175 : tabs.ty 175 = ⟨.st [(0, 1, false), (1, 1, false)], 2, [.int .u8 0, .int .u8 0]⟩ := rfl
@[go_sem ↓] theorem y176 : tabs.ty 176 = ⟨.st [(0, 1, false), (1, 1, false)], 2, [.int .u8 0, .int .u8 0]⟩ := rfl
@[go_sem ↓] theorem y177 : tabs.ty 177 = ⟨.st [(0, 1, false), (1, 1, false)], 2, [.int .u8 0, .int .u8 0]⟩ := rfl
@[go_sem ↓] theorem y178 : tabs.ty 178 = ⟨.ptr, 1, [.nilp]⟩ := rfl
@[go_sem ↓] theorem y179 : tabs.ty 179 = ⟨.sl 185 2 16, 1, [.sl 2 []]⟩ := rfl
@[go_sem ↓] theorem y180 : tabs.ty 180 = ⟨.sl 185 2 16, 1, [.sl 2 []]⟩ := rfl
@[go_sem ↓] theorem y181 : tabs.ty 181 = ⟨.st [(0, 1, false), (1, 1, false), (2, 1, false), (3, 1, false)], 4, [.sl 1 [], .int .i64 0, .sl 3 [], .sl 2 []]⟩ := rfl
@[go_sem ↓] theorem y182 : tabs.ty 182 = ⟨.st [(0, 1, false), (1, 1, false), (2, 1, false), (3, 1, false)], 4, [.sl 1 [], .int .i64 0, .sl 3 [], .sl 2 []]⟩ := rfl
@[go_sem ↓] theorem y183 : tabs.ty 183 = ⟨.fn, 1, [.nilf]⟩ := rfl
@[go_sem ↓] theorem y184 : tabs.ty 184 = ⟨.st [(0, 1, false), (1, 1, false)], 2, [.int .i64 0, .int .i64 0]⟩ := rfl
@[go_sem ↓] theorem y185 : tabs.ty 185 = ⟨.st [(0, 1, false), (1, 1, false)], 2, [.int .i64 0, .int .i64 0]⟩ := rfl
@[go_sem ↓] theorem y186 : tabs.ty 186 = ⟨.fn, 1, [.nilf]⟩ := rfl
@[go_sem ↓] theorem y188 : tabs.ty 188 = ⟨.fn, 1, [.nilf]⟩ := rfl
@[go_sem ↓] theorem y189 : tabs.ty 189 = ⟨.sl 193 401 3224, 1, [.sl 401 []]⟩ := rfl
@[go_sem ↓] theorem y190 : tabs.ty 190 = ⟨.arr 3 1 200, 200, List.replicate 200 (.int .i64 0)⟩ := rfl
@[go_sem ↓] theorem y191 : tabs.ty 191 = ⟨.arr 3 1 200, 200, List.replicate 200 (.int .i64 0)⟩ := rfl
@[go_sem ↓] theorem y192 : tabs.ty 192 = ⟨.st [(0, 1, false), (1, 200, true), (201, 200, true)], 401, [.sl 5 []] ++ List.replicate 200 (.int .i64 0) ++ List.replicate 200 (.int .i64 0)⟩ := rfl
@[go_sem ↓] theorem y193 : tabs.ty 193 = ⟨.st [(0, 1, false), (1, 200, true), (201, 200, true)], 401, [.sl 5 []] ++ List.replicate 200 (.int .i64 0) ++ List.replicate 200 (.int .i64 0)⟩ := rfl
@[go_sem ↓] theorem y194 : tabs.ty 194 = ⟨.fn, 1, [.nilf]⟩ := rfl
@[go_sem ↓] theorem y195 : tabs.ty 195 = ⟨.ptr, 1, [.nilp]⟩ := rfl
@[go_sem ↓] theorem y196 : tabs.ty 196 = ⟨.fn, 1, [.nilf]⟩ := rfl
@[go_sem ↓] theorem y197 : tabs.ty 197 = ⟨.fn, 1, [.nilf]⟩ := rfl
@[go_sem ↓] theorem y198 : tabs.ty 198 = ⟨.fn, 1, [.nilf]⟩ := rfl
@[go_sem ↓] theorem y199 : tabs.ty 199 = ⟨.ptr, 1, [.nilp]⟩ := rfl
@[go_sem ↓] theorem y200 : tabs.ty 200 = ⟨.st [(0, 1, false), (1, 1, false)], 2, [.sl 5 [], .sl 1 []]⟩ := rfl
@[go_sem ↓] theorem y201 : tabs.ty 201 = ⟨.st [(0, 1, false), (1, 1, false)], 2, [.sl 5 [], .sl 1 []]⟩ := rfl
@[go_sem ↓] theorem y202 : tabs.ty 202 = ⟨.fn, 1, [.nilf]⟩ := rfl
@[go_sem ↓] theorem y203 : tabs.ty 203 = ⟨.map 3 206, 1, [.nilm]⟩ := rfl
@[go_sem ↓] theorem y204 : tabs.ty 204 = ⟨.st [(0, 1, false), (1, 1, false), (2, 1, false), (3, 1, false), (4, 1, false), (5, 1, false)], 6, [.int .i64 0, .nilm, .bool false, .bool false, .int .i64 0, .sl 1 []]⟩ := rfl
@[go_sem ↓] theorem y205 : tabs.ty 205 = ⟨.st [(0, 1, false), (1, 1, false), (2, 1, false), (3, 1, false), (4, 1, false), (5, 1, false)], 6, [.int .i64 0, .nilm, .bool false, .bool false, .int .i64 0, .sl 1 []]⟩ := rfl
@[go_sem ↓] theorem y206 : tabs.ty 206 = ⟨.sl 210 513 513, 1, [.sl 513 []]⟩ := rfl
@[go_sem ↓] theorem y207 : tabs.ty 207 = ⟨.fn, 1, [.nilf]⟩ := rfl
@[go_sem ↓] theorem y208 : tabs.ty 208 = ⟨.arr 5 1 512, 512, List.replicate 512 (.int .u8 0)⟩ := rfl
@[go_sem ↓] theorem y209 : tabs.ty 209 = ⟨.st [(0, 512, true), (512, 1, false)], 513, List.replicate 512 (.int .u8 0) ++ [.bool false]⟩ := rfl
@[go_sem ↓] theorem y210 : tabs.ty 210 = ⟨.st [(0, 512, true), (512, 1, false)], 513, List.replicate 512 (.int .u8 0) ++ [.bool false]⟩ := rfl
@[go_sem ↓] theorem y211 : tabs.ty 211 = ⟨.fn, 1, [.nilf]⟩ := rfl
@[go_sem ↓] theorem y212 : tabs.ty 212 = ⟨.fn, 1, [.nilf]⟩ := rfl
@[go_sem ↓] theorem y213 : tabs.ty 213 = ⟨.fn, 1, [.nilf]⟩ := rfl
@[go_sem ↓] theorem y214 : tabs.ty 214 = ⟨.st [(0, 1, false), (1, 1, false), (2, 1, false)], 3, [.int .i64 0, .str [], .bool false]⟩ := rfl
@[go_sem ↓] theorem y215 : tabs.ty 215 = ⟨.st [(0, 1, false), (1, 1, false), (2, 1, false)], 3, [.int .i64 0, .str [], .bool false]⟩ := rfl
@[go_sem ↓] theorem y216 : tabs.ty 216 = ⟨.fn, 1, [.nilf]⟩ := rfl
@[go_sem ↓] theorem y217 : tabs.ty 217 = ⟨.fn, 1, [.nilf]⟩ := rfl
@[go_sem ↓] theorem y218 : tabs.ty 218 = ⟨.fn, 1, [.nilf]⟩ := rfl
@[go_sem ↓] theorem y219 : tabs.ty 219 = ⟨.fn, 1, [.nilf]⟩ := rfl
@[go_sem ↓] theorem y220 : tabs.ty 220 = ⟨.ptr, 1, [.nilp]⟩ := rfl
@[go_sem ↓] theorem y221 : tabs.ty 221 = ⟨.fn, 1, [.nilf]⟩ := rfl
@[go_sem ↓] theorem y222 : tabs.ty 222 = ⟨.int .u64, 1, [.int .u64 0]⟩ := rfl
@[go_sem ↓] theorem y223 : tabs.ty 223 = ⟨.arr 3 1 11, 11, [.int .i64 0, .int .i64 0, .int .i64 0, .int .i64 0, .int .i64 0, .int .i64 0, .int .i64 0, .int .i64 0, .int .i64 0, .int .i64 0, .int .i64 0]⟩ := rfl
@[go_sem ↓] theorem y224 : tabs.ty 224 = ⟨.fn, 1, [.nilf]⟩ := rfl
@[go_sem ↓] theorem y225 : tabs.ty 225 = ⟨.fn, 1, [.nilf]⟩ := rfl
@[go_sem ↓] theorem y226 : tabs.ty 226 = ⟨.fn, 1, [.nilf]⟩ := rfl
@[go_sem ↓] theorem y227 : tabs.ty 227 = ⟨.st [(0, 1, false), (1, 1, false)], 2, [.sl 1 [], .bool false]⟩ := rfl
@[go_sem ↓] theorem y228 : tabs.ty 228 = ⟨.st [(0, 1, false), (1, 1, false)], 2, [.sl 1 [], .bool false]⟩ := rfl
@[go_sem ↓] theorem y229 : tabs.ty 229 = ⟨.fn, 1, [.nilf]⟩ := rfl
@[go_sem ↓] theorem y231 : tabs.ty 231 = ⟨.fn, 1, [.nilf]⟩ := rfl
@[go_sem ↓] theorem y232 : tabs.ty 232 = ⟨.fn, 1, [.nilf]⟩ := rfl
@[go_sem ↓] theorem y233 : tabs.ty 233 = ⟨.fn, 1, [.nilf]⟩ := rfl
@[go_sem ↓] theorem y234 : tabs.ty 234 = ⟨.ptr, 1, [.nilp]⟩ := rfl
@[go_sem ↓] theorem y235 : tabs.ty 235 = ⟨.fn, 1, [.nilf]⟩ := rfl
@[go_sem ↓] theorem y237 : tabs.ty 237 = ⟨.fn, 1, [.nilf]⟩ := rfl
@[go_sem ↓] theorem y238 : tabs.ty 238 = ⟨.ptr, 1, [.nilp]⟩ := rfl
@[go_sem ↓] theorem y239 : tabs.ty 239 = ⟨.fn, 1, [.nilf]⟩ := rfl
@[go_sem ↓] theorem y240 : tabs.ty 240 = ⟨.ptr, 1, [.nilp]⟩ := rfl
@[go_sem ↓] theorem y241 : tabs.ty 241 = ⟨.st [(0, 1, false), (1, 1, false), (2, 1, false)], 3, [.sl 1 [], .int .i64 0, .int .i64 0]⟩ := rfl
@[go_sem ↓] theorem y242 : tabs.ty 242 = ⟨.st [(0, 1, false), (1, 1, false), (2, 1, false)], 3, [.sl 1 [], .int .i64 0, .int .i64 0]⟩ := rfl
@[go_sem ↓] theorem y244 : tabs.ty 244 = ⟨.fn, 1, [.nilf]⟩ := rfl
@[go_sem ↓] theorem y245 : tabs.ty 245 = ⟨.ptr, 1, [.nilp]⟩ := rfl
@[go_sem ↓] theorem y247 : tabs.ty 247 = ⟨.fn, 1, [.nilf]⟩ := rfl
@[go_sem ↓] theorem y248 : tabs.ty 248 = ⟨.ptr, 1, [.nilp]⟩ := rfl
@[go_sem ↓] theorem y249 : tabs.ty 249 = ⟨.fn, 1, [.nilf]⟩ := rfl
@[go_sem ↓] theorem y250 : tabs.ty 250 = ⟨.fn, 1, [.nilf]⟩ := rfl
@[go_sem ↓] theorem y251 : tabs.ty 251 = ⟨.fn, 1, [.nilf]⟩ := rfl
@[go_sem ↓] theorem y252 : tabs.ty 252 = ⟨.fn, 1, [.nilf]⟩ := rfl
@[go_sem ↓] theorem y253 : tabs.ty 253 = ⟨.map 5 3, 1, [.nilm]⟩ := rfl
@[go_sem ↓] theorem y254 : tabs.ty 254 = ⟨.fn, 1, [.nilf]⟩ := rfl
@[go_sem ↓] theorem y256 : tabs.ty 256 = ⟨.fn, 1, [.nilf]⟩ := rfl
@[go_sem ↓] theorem y257 : tabs.ty 257 = ⟨.fn, 1, [.nilf]⟩ := rfl
@[go_sem ↓] theorem y258 : tabs.ty 258 = ⟨.fn, 1, [.nilf]⟩ := rfl
@[go_sem ↓] theorem y259 : tabs.ty 259 = ⟨.fn, 1, [.nilf]⟩ := rfl
@[go_sem ↓] theorem y260 : tabs.ty 260 = ⟨.fn, 1, [.nilf]⟩ := rfl
@[go_sem ↓] theorem y261 : tabs.ty 261 = ⟨.map 5 5, 1, [.nilm]⟩ := rfl
@[go_sem ↓] theorem y262 : tabs.ty 262 = ⟨.fn, 1, [.nilf]⟩ := rfl
@[go_sem ↓] theorem y263 : tabs.ty 263 = ⟨.fn, 1, [.nilf]⟩ := rfl
@[go_sem ↓] theorem y264 : tabs.ty 264 = ⟨.int .i64, 1, [.int .i64 0]⟩ := rfl
@[go_sem ↓] theorem y266 : tabs.ty 266 = ⟨.fn, 1, [.nilf]⟩ := rfl
@[go_sem ↓] theorem y267 : tabs.ty 267 = ⟨.fn, 1, [.nilf]⟩ := rfl
@[go_sem ↓] theorem y268 : tabs.ty 268 = ⟨.fn, 1, [.nilf]⟩ := rfl
@[go_sem ↓] theorem y269 : tabs.ty 269 = ⟨.fn, 1, [.nilf]⟩ := rfl
@[go_sem ↓] theorem y271 : tabs.ty 271 = ⟨.fn, 1, [.nilf]⟩ := rfl
@[go_sem ↓] theorem y272 : tabs.ty 272 = ⟨.fn, 1, [.nilf]⟩ := rfl
@[go_sem ↓] theorem y273 : tabs.ty 273 = ⟨.int .u32, 1, [.int .u32 0]⟩ := rfl
@[go_sem ↓] theorem y274 : tabs.ty 274 = ⟨.fn, 1, [.nilf]⟩ := rfl
@[go_sem ↓] theorem y276 : tabs.ty 276 = ⟨.fn, 1, [.nilf]⟩ := rfl
@[go_sem ↓] theorem y277 : tabs.ty 277 = ⟨.fn, 1, [.nilf]⟩ := rfl
@[go_sem ↓] theorem y279 : tabs.ty 279 = ⟨.fn, 1, [.nilf]⟩ := rfl
@[go_sem ↓] theorem y280 : tabs.ty 280 = ⟨.int .u64, 1, [.int .u64 0]⟩ := rfl
@[go_sem ↓] theorem y281 : tabs.ty 281 = ⟨.fn, 1, [.nilf]⟩ := rfl
@[go_sem ↓] theorem y282 : tabs.ty 282 = ⟨.fn, 1, [.nilf]⟩ := rfl
@[go_sem ↓] theorem y283 : tabs.ty 283 = ⟨.fn, 1, [.nilf]⟩ := rfl
@[go_sem ↓] theorem y284 : tabs.ty 284 = ⟨.fn, 1, [.nilf]⟩ := rfl
@[go_sem ↓] theorem y285 : tabs.ty 285 = ⟨.fn, 1, [.nilf]⟩ := rfl
@[go_sem ↓] theorem y286 : tabs.ty 286 = ⟨.ptr, 1, [.nilp]⟩ := rfl
@[go_sem ↓] theorem y288 : tabs.ty 288 = ⟨.fn, 1, [.nilf]⟩ := rfl
@[go_sem ↓] theorem y289 : tabs.ty 289 = ⟨.st [(0, 1, false), (1, 1, false), (2, 1, false), (3, 1, false)], 4, [.nilp, .nilp, .nilp, .str []]⟩ := rfl
@[go_sem ↓] theorem y290 : tabs.ty 290 = ⟨.st [(0, 1, false), (1, 1, false), (2, 1, false), (3, 1, false)], 4, [.nilp, .nilp, .nilp, .str []]⟩ := rfl
@[go_sem ↓] theorem y291 : tabs.ty 291 = ⟨.arr 16 1 0, 0, []⟩ := rfl
@[go_sem ↓] theorem y294 : tabs.ty 294 = ⟨.int .u8, 1, [.int .u8 0]⟩ := rfl
@[go_sem ↓] theorem y295 : tabs.ty 295 = ⟨.int .u8, 1, [.int .u8 0]⟩ := rfl
@[go_sem ↓] theorem y296 : tabs.ty 296 = ⟨.fn, 1, [.nilf]⟩ := rfl
@[go_sem ↓] theorem y297 : tabs.ty 297 = ⟨.ptr, 1, [.nilp]⟩ := rfl
@[go_sem ↓] theorem y298 : tabs.ty 298 = ⟨.int .i32, 1, [.int .i32 0]⟩ := rfl
@[go_sem ↓] theorem y299 : tabs.ty 299 = ⟨.int .i32, 1, [.int .i32 0]⟩ := rfl
@[go_sem ↓] theorem y300 : tabs.ty 300 = ⟨.st [(0, 1, false), (1, 1, false), (2, 1, false), (3, 1, false), (4, 1, false), (5, 1, false), (6, 1, false), (7, 1, false), (8, 1, false), (9, 1, false), (10, 1, false)], 11, [.int .u64 0, .int .u64 0, .int .u32 0, .int .u8 0, .int .u8 0, .int .u8 0, .int .u8 0, .nilf, .nilp, .int .i32 0, .int .i32 0]⟩ := rfl
@[go_sem ↓] theorem y301 : tabs.ty 301 = ⟨.st [(0, 1, false), (1, 1, false), (2, 1, false), (3, 1, false), (4, 1, false), (5, 1, false), (6, 1, false), (7, 1, false), (8, 1, false), (9, 1, false), (10, 1, false)], 11, [.int .u64 0, .int .u64 0, .int .u32 0, .int .u8 0, .int .u8 0, .int .u8 0, .int .u8 0, .nilf, .nilp, .int .i32 0, .int .i32 0]⟩ := rfl
end Go.Proofs.Ytpmbeldmclcjlaa.Vs

import Derived.Test.YtcbdmlpfepdblaaGreatDoorMtCtx
import Derived.Test.YtcbdmlpfepdblaaGreatDoorEvG
namespace Go.Proofs
noncomputable section
open Go Go.Ev Go.RowKit
/-- Tokens -/
def Tryz.a0 : Memo := ⟨173, [.str [99, 108, 105, 101, 110, 116, 32, 97, 112, 112, 59, 32, 102, 117, 110, 99, 32, 109, 97, 105, 110, 40, 41, 58, 32, 73, 110, 116, 32, 61, 32, 108, 101, 116, 32, 120, 32, 61, 32, 112, 114, 105, 110, 116, 32, 49, 32, 105, 110, 32, 50, 32, 105, 110, 32, 120, 32, 43, 32, 120, 59]],
 [], 0, .tup [.sl 5954 0 22, .int .i64 (0), .int .i64 (0)],
 [(5954, ⟨[.int .i64 (1), .str [99, 108, 105, 101, 110, 116], .int .i64 (0), .int .i64 (1), .str [97, 112, 112], .int .i64 (7), .int .i64 (3), .str [59], .int .i64 (10), .int .i64 (1), .str [102, 117, 110, 99], .int .i64 (12), .int .i64 (1), .str [109, 97, 105, 110], .int .i64 (17), .int .i64 (3), .str [40], .int .i64 (21), .int .i64 (3), .str [41], .int .i64 (22), .int .i64 (3), .str [58], .int .i64 (23), .int .i64 (1), .str [73, 110, 116], .int .i64 (25), .int .i64 (3), .str [61], .int .i64 (29), .int .i64 (1), .str [108, 101, 116], .int .i64 (31), .int .i64 (1), .str [120], .int .i64 (35), .int .i64 (3), .str [61], .int .i64 (37), .int .i64 (1), .str [112, 114, 105, 110, 116], .int .i64 (39), .int .i64 (2), .str [49], .int .i64 (45), .int .i64 (1), .str [105, 110], .int .i64 (47), .int .i64 (2), .str [50], .int .i64 (50), .int .i64 (1), .str [105, 110], .int .i64 (52), .int .i64 (1), .str [120], .int .i64 (55), .int .i64 (3), .str [43], .int .i64 (57), .int .i64 (1), .str [120], .int .i64 (59), .int .i64 (3), .str [59], .int .i64 (60)], 3, .tip 63⟩)], 5981, []⟩
theorem Tryz.a0_says : Tryz.a0.says (fFun ((Ctx.of Tryz.prog).withB []) (memoA (orcB []) []) 2000) = true := by kernel_rfl
theorem Tryz.a0_shape : (Tryz.a0.static && Tryz.a0.named Tryz.prog) = true := by kernel_rfl
/-- Parse -/
def Tryz.a1 : Memo := ⟨32, [.str [99, 108, 105, 101, 110, 116, 32, 97, 112, 112, 59, 32, 102, 117, 110, 99, 32, 109, 97, 105, 110, 40, 41, 58, 32, 73, 110, 116, 32, 61, 32, 108, 101, 116, 32, 120, 32, 61, 32, 112, 114, 105, 110, 116, 32, 49, 32, 105, 110, 32, 50, 32, 105, 110, 32, 120, 32, 43, 32, 120, 59]],
 [], 0, .tup [.agg [.int .i64 (2), .str [97, 112, 112], .int .i64 (0), .sl0, .sl0, .sl0, .sl0, .sl0, .sl 7252 0 1], .int .i64 (0), .int .i64 (0)],
 [(7252, ⟨[.int .i64 (0), .bool false, .bool false, .str [109, 97, 105, 110], .sl0, .sl0, .str [73, 110, 116], .sl0, .bool true, .int .i64 (4), .str [120], .str [], .int .i64 (0), .sl0, .sl0, .sl0, .sl 11207 0 2, .str [], .sl0, .int .i64 (31)], 20, .free⟩),
  (11207, ⟨[.int .i64 (6), .str [], .str [], .int .i64 (0), .sl0, .sl0, .sl0, .sl 10204 0 2, .str [], .sl0, .int .i64 (39), .int .i64 (8), .str [43], .str [], .int .i64 (0), .sl0, .sl0, .sl0, .sl 14659 0 2, .str [], .sl0, .int .i64 (55)], 11, .tip 11⟩),
  (10204, ⟨[.int .i64 (1), .str [], .str [], .int .i64 (1), .sl0, .sl0, .sl0, .sl0, .str [], .sl0, .int .i64 (45), .int .i64 (1), .str [], .str [], .int .i64 (2), .sl0, .sl0, .sl0, .sl0, .str [], .sl0, .int .i64 (50)], 11, .tip 11⟩),
  (14659, ⟨[.int .i64 (3), .str [120], .str [], .int .i64 (0), .sl0, .sl0, .sl0, .sl0, .str [], .sl0, .int .i64 (55), .int .i64 (3), .str [120], .str [], .int .i64 (0), .sl0, .sl0, .sl0, .sl0, .str [], .sl0, .int .i64 (59)], 11, .free⟩)], 16120, []⟩
theorem Tryz.a1_says : Tryz.a1.says (fFun ((Ctx.of Tryz.prog).withB []) (memoA (orcB []) [Tryz.a0]) 2000) = true := by kernel_rfl
theorem Tryz.a1_shape : (Tryz.a1.static && Tryz.a1.named Tryz.prog) = true := by kernel_rfl
/-- Valid -/
def Tryz.a2 : Memo := ⟨17, [.agg [.int .i64 (2), .str [97, 112, 112], .int .i64 (0), .sl0, .sl0, .sl0, .sl0, .sl0, .sl 0 0 1]],
 [(0, ⟨[.int .i64 (0), .bool false, .bool false, .str [109, 97, 105, 110], .sl0, .sl0, .str [73, 110, 116], .sl0, .bool true, .int .i64 (4), .str [120], .str [], .int .i64 (0), .sl0, .sl0, .sl0, .sl 1 0 2, .str [], .sl0, .int .i64 (31)], 20, .old⟩),
  (1, ⟨[.int .i64 (6), .str [], .str [], .int .i64 (0), .sl0, .sl0, .sl0, .sl 2 0 2, .str [], .sl0, .int .i64 (39), .int .i64 (8), .str [43], .str [], .int .i64 (0), .sl0, .sl0, .sl0, .sl 3 0 2, .str [], .sl0, .int .i64 (55)], 11, .old⟩),
  (2, ⟨[.int .i64 (1), .str [], .str [], .int .i64 (1), .sl0, .sl0, .sl0, .sl0, .str [], .sl0, .int .i64 (45), .int .i64 (1), .str [], .str [], .int .i64 (2), .sl0, .sl0, .sl0, .sl0, .str [], .sl0, .int .i64 (50)], 11, .old⟩),
  (3, ⟨[.int .i64 (3), .str [120], .str [], .int .i64 (0), .sl0, .sl0, .sl0, .sl0, .str [], .sl0, .int .i64 (55), .int .i64 (3), .str [120], .str [], .int .i64 (0), .sl0, .sl0, .sl0, .sl0, .str [], .sl0, .int .i64 (59)], 11, .old⟩)], 4, .bool true,
 [], 5124, []⟩
theorem Tryz.a2_says : Tryz.a2.says (fFun ((Ctx.of Tryz.prog).withB []) (memoA (orcB []) [Tryz.a0, Tryz.a1]) 2000) = true := by kernel_rfl
theorem Tryz.a2_shape : (Tryz.a2.static && Tryz.a2.named Tryz.prog) = true := by kernel_rfl
/-- Resolve -/
def Tryz.a3 : Memo := ⟨33, [.agg [.int .i64 (2), .str [97, 112, 112], .int .i64 (0), .sl0, .sl0, .sl0, .sl0, .sl0, .sl 0 0 1], .sl0],
 [(0, ⟨[.int .i64 (0), .bool false, .bool false, .str [109, 97, 105, 110], .sl0, .sl0, .str [73, 110, 116], .sl0, .bool true, .int .i64 (4), .str [120], .str [], .int .i64 (0), .sl0, .sl0, .sl0, .sl 1 0 2, .str [], .sl0, .int .i64 (31)], 20, .old⟩),
  (1, ⟨[.int .i64 (6), .str [], .str [], .int .i64 (0), .sl0, .sl0, .sl0, .sl 2 0 2, .str [], .sl0, .int .i64 (39), .int .i64 (8), .str [43], .str [], .int .i64 (0), .sl0, .sl0, .sl0, .sl 3 0 2, .str [], .sl0, .int .i64 (55)], 11, .old⟩),
  (2, ⟨[.int .i64 (1), .str [], .str [], .int .i64 (1), .sl0, .sl0, .sl0, .sl0, .str [], .sl0, .int .i64 (45), .int .i64 (1), .str [], .str [], .int .i64 (2), .sl0, .sl0, .sl0, .sl0, .str [], .sl0, .int .i64 (50)], 11, .old⟩),
  (3, ⟨[.int .i64 (3), .str [120], .str [], .int .i64 (0), .sl0, .sl0, .sl0, .sl0, .str [], .sl0, .int .i64 (55), .int .i64 (3), .str [120], .str [], .int .i64 (0), .sl0, .sl0, .sl0, .sl0, .str [], .sl0, .int .i64 (59)], 11, .old⟩)], 4, .tup [.agg [.int .i64 (2), .str [97, 112, 112], .int .i64 (0), .sl0, .sl0, .sl0, .sl0, .sl0, .sl 6386 0 1], .int .i64 (0), .int .i64 (0)],
 [(6386, ⟨[.int .i64 (0), .bool false, .bool false, .str [109, 97, 105, 110], .sl0, .sl0, .str [73, 110, 116], .sl0, .bool true, .int .i64 (4), .str [120], .str [], .int .i64 (0), .sl0, .sl0, .sl0, .sl 6011 0 2, .str [], .sl0, .int .i64 (31)], 20, .free⟩),
  (6011, ⟨[.int .i64 (6), .str [], .str [], .int .i64 (0), .sl0, .sl0, .sl0, .sl 5882 0 2, .str [], .sl0, .int .i64 (39), .int .i64 (8), .str [43], .str [], .int .i64 (0), .sl0, .sl0, .sl0, .sl 6254 0 2, .str [], .sl0, .int .i64 (55)], 11, .tip 11⟩),
  (5882, ⟨[.int .i64 (1), .str [], .str [], .int .i64 (1), .sl0, .sl0, .sl0, .sl0, .str [], .sl0, .int .i64 (45), .int .i64 (1), .str [], .str [], .int .i64 (2), .sl0, .sl0, .sl0, .sl0, .str [], .sl0, .int .i64 (50)], 11, .tip 11⟩),
  (6254, ⟨[.int .i64 (3), .str [120], .str [], .int .i64 (0), .sl0, .sl0, .sl0, .sl0, .str [], .sl0, .int .i64 (55), .int .i64 (3), .str [120], .str [], .int .i64 (0), .sl0, .sl0, .sl0, .sl0, .str [], .sl0, .int .i64 (59)], 11, .tip 11⟩)], 6400, []⟩
theorem Tryz.a3_says : Tryz.a3.says (fFun ((Ctx.of Tryz.prog).withB []) (memoA (orcB []) [Tryz.a0, Tryz.a1, Tryz.a2]) 2000) = true := by kernel_rfl
theorem Tryz.a3_shape : (Tryz.a3.static && Tryz.a3.named Tryz.prog) = true := by kernel_rfl
/-- Valid -/
def Tryz.a4 : Memo := ⟨17, [.agg [.int .i64 (2), .str [97, 112, 112], .int .i64 (0), .sl0, .sl0, .sl0, .sl0, .sl0, .sl 0 0 1]],
 [(0, ⟨[.int .i64 (0), .bool false, .bool false, .str [109, 97, 105, 110], .sl0, .sl0, .str [73, 110, 116], .sl0, .bool true, .int .i64 (4), .str [120], .str [], .int .i64 (0), .sl0, .sl0, .sl0, .sl 1 0 2, .str [], .sl0, .int .i64 (31)], 20, .old⟩),
  (1, ⟨[.int .i64 (6), .str [], .str [], .int .i64 (0), .sl0, .sl0, .sl0, .sl 2 0 2, .str [], .sl0, .int .i64 (39), .int .i64 (8), .str [43], .str [], .int .i64 (0), .sl0, .sl0, .sl0, .sl 3 0 2, .str [], .sl0, .int .i64 (55)], 11, .old⟩),
  (2, ⟨[.int .i64 (1), .str [], .str [], .int .i64 (1), .sl0, .sl0, .sl0, .sl0, .str [], .sl0, .int .i64 (45), .int .i64 (1), .str [], .str [], .int .i64 (2), .sl0, .sl0, .sl0, .sl0, .str [], .sl0, .int .i64 (50)], 11, .old⟩),
  (3, ⟨[.int .i64 (3), .str [120], .str [], .int .i64 (0), .sl0, .sl0, .sl0, .sl0, .str [], .sl0, .int .i64 (55), .int .i64 (3), .str [120], .str [], .int .i64 (0), .sl0, .sl0, .sl0, .sl0, .str [], .sl0, .int .i64 (59)], 11, .old⟩)], 4, .bool true,
 [], 5124, []⟩
theorem Tryz.a4_says : Tryz.a4.says (fFun ((Ctx.of Tryz.prog).withB []) (memoA (orcB []) [Tryz.a0, Tryz.a1, Tryz.a2, Tryz.a3]) 2000) = true := by kernel_rfl
theorem Tryz.a4_shape : (Tryz.a4.static && Tryz.a4.named Tryz.prog) = true := by kernel_rfl
/-- Check -/
def Tryz.a5 : Memo := ⟨11, [.agg [.int .i64 (2), .str [97, 112, 112], .int .i64 (0), .sl0, .sl0, .sl0, .sl0, .sl0, .sl 0 0 1], .sl0],
 [(0, ⟨[.int .i64 (0), .bool false, .bool false, .str [109, 97, 105, 110], .sl0, .sl0, .str [73, 110, 116], .sl0, .bool true, .int .i64 (4), .str [120], .str [], .int .i64 (0), .sl0, .sl0, .sl0, .sl 1 0 2, .str [], .sl0, .int .i64 (31)], 20, .old⟩),
  (1, ⟨[.int .i64 (6), .str [], .str [], .int .i64 (0), .sl0, .sl0, .sl0, .sl 2 0 2, .str [], .sl0, .int .i64 (39), .int .i64 (8), .str [43], .str [], .int .i64 (0), .sl0, .sl0, .sl0, .sl 3 0 2, .str [], .sl0, .int .i64 (55)], 11, .old⟩),
  (2, ⟨[.int .i64 (1), .str [], .str [], .int .i64 (1), .sl0, .sl0, .sl0, .sl0, .str [], .sl0, .int .i64 (45), .int .i64 (1), .str [], .str [], .int .i64 (2), .sl0, .sl0, .sl0, .sl0, .str [], .sl0, .int .i64 (50)], 11, .old⟩),
  (3, ⟨[.int .i64 (3), .str [120], .str [], .int .i64 (0), .sl0, .sl0, .sl0, .sl0, .str [], .sl0, .int .i64 (55), .int .i64 (3), .str [120], .str [], .int .i64 (0), .sl0, .sl0, .sl0, .sl0, .str [], .sl0, .int .i64 (59)], 11, .old⟩)], 4, .tup [.agg [.int .i64 (2), .str [97, 112, 112], .int .i64 (0), .sl0, .sl0, .sl0, .sl0, .sl0, .sl 10114 0 1], .int .i64 (0), .int .i64 (0)],
 [(10114, ⟨[.int .i64 (0), .bool false, .bool false, .str [109, 97, 105, 110], .sl0, .sl0, .str [73, 110, 116], .sl0, .bool true, .int .i64 (4), .str [120], .str [], .int .i64 (0), .sl0, .sl0, .sl0, .sl 10037 0 2, .str [73, 110, 116], .sl0, .int .i64 (31)], 20, .free⟩),
  (10037, ⟨[.int .i64 (6), .str [], .str [], .int .i64 (0), .sl0, .sl0, .sl0, .sl 9525 0 2, .str [73, 110, 116], .sl0, .int .i64 (39), .int .i64 (8), .str [43], .str [], .int .i64 (0), .sl0, .sl0, .sl0, .sl 9961 0 2, .str [73, 110, 116], .sl0, .int .i64 (55)], 11, .tip 11⟩),
  (9525, ⟨[.int .i64 (1), .str [], .str [], .int .i64 (1), .sl0, .sl0, .sl0, .sl0, .str [73, 110, 116], .sl0, .int .i64 (45), .int .i64 (1), .str [], .str [], .int .i64 (2), .sl0, .sl0, .sl0, .sl0, .str [73, 110, 116], .sl0, .int .i64 (50)], 11, .tip 11⟩),
  (9961, ⟨[.int .i64 (3), .str [120], .str [], .int .i64 (0), .sl0, .sl0, .sl0, .sl0, .str [73, 110, 116], .sl0, .int .i64 (55), .int .i64 (3), .str [120], .str [], .int .i64 (0), .sl0, .sl0, .sl0, .sl0, .str [73, 110, 116], .sl0, .int .i64 (59)], 11, .tip 11⟩)], 10124, []⟩
theorem Tryz.a5_says : Tryz.a5.says (fFun ((Ctx.of Tryz.prog).withB []) (memoA (orcB []) [Tryz.a0, Tryz.a1, Tryz.a2, Tryz.a3, Tryz.a4]) 2000) = true := by kernel_rfl
theorem Tryz.a5_shape : (Tryz.a5.static && Tryz.a5.named Tryz.prog) = true := by kernel_rfl
/-- Run -/
def Tryz.a6 : Memo := ⟨6, [.sl 0 0 1, .str [97, 112, 112], .int .i64 (5)],
 [(0, ⟨[.int .i64 (2), .str [97, 112, 112], .int .i64 (0), .sl0, .sl0, .sl0, .sl0, .sl0, .sl 1 0 1], 9, .old⟩),
  (1, ⟨[.int .i64 (0), .bool false, .bool false, .str [109, 97, 105, 110], .sl0, .sl0, .str [73, 110, 116], .sl0, .bool true, .int .i64 (4), .str [120], .str [], .int .i64 (0), .sl0, .sl0, .sl0, .sl 2 0 2, .str [73, 110, 116], .sl0, .int .i64 (31)], 20, .old⟩),
  (2, ⟨[.int .i64 (6), .str [], .str [], .int .i64 (0), .sl0, .sl0, .sl0, .sl 3 0 2, .str [73, 110, 116], .sl0, .int .i64 (39), .int .i64 (8), .str [43], .str [], .int .i64 (0), .sl0, .sl0, .sl0, .sl 4 0 2, .str [73, 110, 116], .sl0, .int .i64 (55)], 11, .old⟩),
  (3, ⟨[.int .i64 (1), .str [], .str [], .int .i64 (1), .sl0, .sl0, .sl0, .sl0, .str [73, 110, 116], .sl0, .int .i64 (45), .int .i64 (1), .str [], .str [], .int .i64 (2), .sl0, .sl0, .sl0, .sl0, .str [73, 110, 116], .sl0, .int .i64 (50)], 11, .old⟩),
  (4, ⟨[.int .i64 (3), .str [120], .str [], .int .i64 (0), .sl0, .sl0, .sl0, .sl0, .str [73, 110, 116], .sl0, .int .i64 (55), .int .i64 (3), .str [120], .str [], .int .i64 (0), .sl0, .sl0, .sl0, .sl0, .str [73, 110, 116], .sl0, .int .i64 (59)], 11, .old⟩)], 5, .agg [.sl 336 0 1, .int .i64 (0), .int .i64 (0), .str [52], .int .i64 (1)],
 [(336, ⟨[.str [49]], 1, .free⟩)], 723, []⟩
theorem Tryz.a6_says : Tryz.a6.says (fFun ((Ctx.of Tryz.prog).withB []) (memoA (orcB []) [Tryz.a0, Tryz.a1, Tryz.a2, Tryz.a3, Tryz.a4, Tryz.a5]) 2000) = true := by kernel_rfl
theorem Tryz.a6_shape : (Tryz.a6.static && Tryz.a6.named Tryz.prog) = true := by kernel_rfl
end
end Go.Proofs

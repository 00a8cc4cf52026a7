import Derived.Test.YtcbdmlpfepdblaaGreatDoorMtCtx
import Derived.Test.YtcbdmlpfepdblaaGreatDoorEvG
namespace Go.Proofs
noncomputable section
open Go Go.Ev Go.RowKit
/-- Tokens -/
def Tryz.b0 : Memo := ⟨173, [.str [99, 108, 105, 101, 110, 116, 32, 97, 112, 112, 59, 32, 102, 117, 110, 99, 32, 109, 97, 105, 110, 40, 41, 58, 32, 73, 110, 116, 32, 61, 32, 102, 97, 105, 108, 91, 73, 110, 116, 93, 40, 51, 41, 32, 43, 32, 40, 49, 32, 47, 32, 48, 41, 59]],
 [], 0, .tup [.sl 6264 0 24, .int .i64 (0), .int .i64 (0)],
 [(6264, ⟨[.int .i64 (1), .str [99, 108, 105, 101, 110, 116], .int .i64 (0), .int .i64 (1), .str [97, 112, 112], .int .i64 (7), .int .i64 (3), .str [59], .int .i64 (10), .int .i64 (1), .str [102, 117, 110, 99], .int .i64 (12), .int .i64 (1), .str [109, 97, 105, 110], .int .i64 (17), .int .i64 (3), .str [40], .int .i64 (21), .int .i64 (3), .str [41], .int .i64 (22), .int .i64 (3), .str [58], .int .i64 (23), .int .i64 (1), .str [73, 110, 116], .int .i64 (25), .int .i64 (3), .str [61], .int .i64 (29), .int .i64 (1), .str [102, 97, 105, 108], .int .i64 (31), .int .i64 (3), .str [91], .int .i64 (35), .int .i64 (1), .str [73, 110, 116], .int .i64 (36), .int .i64 (3), .str [93], .int .i64 (39), .int .i64 (3), .str [40], .int .i64 (40), .int .i64 (2), .str [51], .int .i64 (41), .int .i64 (3), .str [41], .int .i64 (42), .int .i64 (3), .str [43], .int .i64 (44), .int .i64 (3), .str [40], .int .i64 (46), .int .i64 (2), .str [49], .int .i64 (47), .int .i64 (3), .str [47], .int .i64 (49), .int .i64 (2), .str [48], .int .i64 (51), .int .i64 (3), .str [41], .int .i64 (52), .int .i64 (3), .str [59], .int .i64 (53)], 3, .tip 69⟩)], 6291, []⟩
theorem Tryz.b0_says : Tryz.b0.says (fFun ((Ctx.of Tryz.prog).withB []) (memoA (orcB []) []) 2000) = true := by kernel_rfl
theorem Tryz.b0_shape : (Tryz.b0.static && Tryz.b0.named Tryz.prog) = true := by kernel_rfl
/-- Parse -/
def Tryz.b1 : Memo := ⟨32, [.str [99, 108, 105, 101, 110, 116, 32, 97, 112, 112, 59, 32, 102, 117, 110, 99, 32, 109, 97, 105, 110, 40, 41, 58, 32, 73, 110, 116, 32, 61, 32, 102, 97, 105, 108, 91, 73, 110, 116, 93, 40, 51, 41, 32, 43, 32, 40, 49, 32, 47, 32, 48, 41, 59]],
 [], 0, .tup [.agg [.int .i64 (2), .str [97, 112, 112], .int .i64 (0), .sl0, .sl0, .sl0, .sl0, .sl0, .sl 7562 0 1], .int .i64 (0), .int .i64 (0)],
 [(7562, ⟨[.int .i64 (0), .bool false, .bool false, .str [109, 97, 105, 110], .sl0, .sl0, .str [73, 110, 116], .sl0, .bool true, .int .i64 (8), .str [43], .str [], .int .i64 (0), .sl0, .sl0, .sl0, .sl 13645 0 2, .str [], .sl0, .int .i64 (31)], 20, .free⟩),
  (13645, ⟨[.int .i64 (7), .str [], .str [], .int .i64 (0), .sl 10035 0 1, .sl0, .sl0, .sl 10274 0 1, .str [], .sl0, .int .i64 (31), .int .i64 (8), .str [47], .str [], .int .i64 (0), .sl0, .sl0, .sl0, .sl 12997 0 2, .str [], .sl0, .int .i64 (47)], 11, .free⟩),
  (10035, ⟨[.str [73, 110, 116], .sl0], 2, .free⟩),
  (10274, ⟨[.int .i64 (1), .str [], .str [], .int .i64 (3), .sl0, .sl0, .sl0, .sl0, .str [], .sl0, .int .i64 (41)], 11, .free⟩),
  (12997, ⟨[.int .i64 (1), .str [], .str [], .int .i64 (1), .sl0, .sl0, .sl0, .sl0, .str [], .sl0, .int .i64 (47), .int .i64 (1), .str [], .str [], .int .i64 (0), .sl0, .sl0, .sl0, .sl0, .str [], .sl0, .int .i64 (51)], 11, .free⟩)], 15017, []⟩
theorem Tryz.b1_says : Tryz.b1.says (fFun ((Ctx.of Tryz.prog).withB []) (memoA (orcB []) [Tryz.b0]) 2000) = true := by kernel_rfl
theorem Tryz.b1_shape : (Tryz.b1.static && Tryz.b1.named Tryz.prog) = true := by kernel_rfl
/-- Valid -/
def Tryz.b2 : Memo := ⟨17, [.agg [.int .i64 (2), .str [97, 112, 112], .int .i64 (0), .sl0, .sl0, .sl0, .sl0, .sl0, .sl 0 0 1]],
 [(0, ⟨[.int .i64 (0), .bool false, .bool false, .str [109, 97, 105, 110], .sl0, .sl0, .str [73, 110, 116], .sl0, .bool true, .int .i64 (8), .str [43], .str [], .int .i64 (0), .sl0, .sl0, .sl0, .sl 1 0 2, .str [], .sl0, .int .i64 (31)], 20, .old⟩),
  (1, ⟨[.int .i64 (7), .str [], .str [], .int .i64 (0), .sl 2 0 1, .sl0, .sl0, .sl 3 0 1, .str [], .sl0, .int .i64 (31), .int .i64 (8), .str [47], .str [], .int .i64 (0), .sl0, .sl0, .sl0, .sl 4 0 2, .str [], .sl0, .int .i64 (47)], 11, .old⟩),
  (2, ⟨[.str [73, 110, 116], .sl0], 2, .old⟩),
  (3, ⟨[.int .i64 (1), .str [], .str [], .int .i64 (3), .sl0, .sl0, .sl0, .sl0, .str [], .sl0, .int .i64 (41)], 11, .old⟩),
  (4, ⟨[.int .i64 (1), .str [], .str [], .int .i64 (1), .sl0, .sl0, .sl0, .sl0, .str [], .sl0, .int .i64 (47), .int .i64 (1), .str [], .str [], .int .i64 (0), .sl0, .sl0, .sl0, .sl0, .str [], .sl0, .int .i64 (51)], 11, .old⟩)], 5, .bool true,
 [], 3514, []⟩
theorem Tryz.b2_says : Tryz.b2.says (fFun ((Ctx.of Tryz.prog).withB []) (memoA (orcB []) [Tryz.b0, Tryz.b1]) 2000) = true := by kernel_rfl
theorem Tryz.b2_shape : (Tryz.b2.static && Tryz.b2.named Tryz.prog) = true := by kernel_rfl
/-- Resolve -/
def Tryz.b3 : Memo := ⟨33, [.agg [.int .i64 (2), .str [97, 112, 112], .int .i64 (0), .sl0, .sl0, .sl0, .sl0, .sl0, .sl 0 0 1], .sl0],
 [(0, ⟨[.int .i64 (0), .bool false, .bool false, .str [109, 97, 105, 110], .sl0, .sl0, .str [73, 110, 116], .sl0, .bool true, .int .i64 (8), .str [43], .str [], .int .i64 (0), .sl0, .sl0, .sl0, .sl 1 0 2, .str [], .sl0, .int .i64 (31)], 20, .old⟩),
  (1, ⟨[.int .i64 (7), .str [], .str [], .int .i64 (0), .sl 2 0 1, .sl0, .sl0, .sl 3 0 1, .str [], .sl0, .int .i64 (31), .int .i64 (8), .str [47], .str [], .int .i64 (0), .sl0, .sl0, .sl0, .sl 4 0 2, .str [], .sl0, .int .i64 (47)], 11, .old⟩),
  (2, ⟨[.str [73, 110, 116], .sl0], 2, .old⟩),
  (3, ⟨[.int .i64 (1), .str [], .str [], .int .i64 (3), .sl0, .sl0, .sl0, .sl0, .str [], .sl0, .int .i64 (41)], 11, .old⟩),
  (4, ⟨[.int .i64 (1), .str [], .str [], .int .i64 (1), .sl0, .sl0, .sl0, .sl0, .str [], .sl0, .int .i64 (47), .int .i64 (1), .str [], .str [], .int .i64 (0), .sl0, .sl0, .sl0, .sl0, .str [], .sl0, .int .i64 (51)], 11, .old⟩)], 5, .tup [.agg [.int .i64 (2), .str [97, 112, 112], .int .i64 (0), .sl0, .sl0, .sl0, .sl0, .sl0, .sl 4726 0 1], .int .i64 (0), .int .i64 (0)],
 [(4726, ⟨[.int .i64 (0), .bool false, .bool false, .str [109, 97, 105, 110], .sl0, .sl0, .str [73, 110, 116], .sl0, .bool true, .int .i64 (8), .str [43], .str [], .int .i64 (0), .sl0, .sl0, .sl0, .sl 4351 0 2, .str [], .sl0, .int .i64 (31)], 20, .free⟩),
  (4351, ⟨[.int .i64 (7), .str [], .str [], .int .i64 (0), .sl 4126 0 1, .sl0, .sl0, .sl 4222 0 1, .str [], .sl0, .int .i64 (31), .int .i64 (8), .str [47], .str [], .int .i64 (0), .sl0, .sl0, .sl0, .sl 4594 0 2, .str [], .sl0, .int .i64 (47)], 11, .tip 11⟩),
  (4126, ⟨[.str [73, 110, 116], .sl0], 2, .free⟩),
  (4222, ⟨[.int .i64 (1), .str [], .str [], .int .i64 (3), .sl0, .sl0, .sl0, .sl0, .str [], .sl0, .int .i64 (41)], 11, .free⟩),
  (4594, ⟨[.int .i64 (1), .str [], .str [], .int .i64 (1), .sl0, .sl0, .sl0, .sl0, .str [], .sl0, .int .i64 (47), .int .i64 (1), .str [], .str [], .int .i64 (0), .sl0, .sl0, .sl0, .sl0, .str [], .sl0, .int .i64 (51)], 11, .tip 11⟩)], 4740, []⟩
theorem Tryz.b3_says : Tryz.b3.says (fFun ((Ctx.of Tryz.prog).withB []) (memoA (orcB []) [Tryz.b0, Tryz.b1, Tryz.b2]) 2000) = true := by kernel_rfl
theorem Tryz.b3_shape : (Tryz.b3.static && Tryz.b3.named Tryz.prog) = true := by kernel_rfl
/-- Valid -/
def Tryz.b4 : Memo := ⟨17, [.agg [.int .i64 (2), .str [97, 112, 112], .int .i64 (0), .sl0, .sl0, .sl0, .sl0, .sl0, .sl 0 0 1]],
 [(0, ⟨[.int .i64 (0), .bool false, .bool false, .str [109, 97, 105, 110], .sl0, .sl0, .str [73, 110, 116], .sl0, .bool true, .int .i64 (8), .str [43], .str [], .int .i64 (0), .sl0, .sl0, .sl0, .sl 1 0 2, .str [], .sl0, .int .i64 (31)], 20, .old⟩),
  (1, ⟨[.int .i64 (7), .str [], .str [], .int .i64 (0), .sl 2 0 1, .sl0, .sl0, .sl 3 0 1, .str [], .sl0, .int .i64 (31), .int .i64 (8), .str [47], .str [], .int .i64 (0), .sl0, .sl0, .sl0, .sl 4 0 2, .str [], .sl0, .int .i64 (47)], 11, .old⟩),
  (2, ⟨[.str [73, 110, 116], .sl0], 2, .old⟩),
  (3, ⟨[.int .i64 (1), .str [], .str [], .int .i64 (3), .sl0, .sl0, .sl0, .sl0, .str [], .sl0, .int .i64 (41)], 11, .old⟩),
  (4, ⟨[.int .i64 (1), .str [], .str [], .int .i64 (1), .sl0, .sl0, .sl0, .sl0, .str [], .sl0, .int .i64 (47), .int .i64 (1), .str [], .str [], .int .i64 (0), .sl0, .sl0, .sl0, .sl0, .str [], .sl0, .int .i64 (51)], 11, .old⟩)], 5, .bool true,
 [], 3514, []⟩
theorem Tryz.b4_says : Tryz.b4.says (fFun ((Ctx.of Tryz.prog).withB []) (memoA (orcB []) [Tryz.b0, Tryz.b1, Tryz.b2, Tryz.b3]) 2000) = true := by kernel_rfl
theorem Tryz.b4_shape : (Tryz.b4.static && Tryz.b4.named Tryz.prog) = true := by kernel_rfl
/-- Check -/
def Tryz.b5 : Memo := ⟨11, [.agg [.int .i64 (2), .str [97, 112, 112], .int .i64 (0), .sl0, .sl0, .sl0, .sl0, .sl0, .sl 0 0 1], .sl0],
 [(0, ⟨[.int .i64 (0), .bool false, .bool false, .str [109, 97, 105, 110], .sl0, .sl0, .str [73, 110, 116], .sl0, .bool true, .int .i64 (8), .str [43], .str [], .int .i64 (0), .sl0, .sl0, .sl0, .sl 1 0 2, .str [], .sl0, .int .i64 (31)], 20, .old⟩),
  (1, ⟨[.int .i64 (7), .str [], .str [], .int .i64 (0), .sl 2 0 1, .sl0, .sl0, .sl 3 0 1, .str [], .sl0, .int .i64 (31), .int .i64 (8), .str [47], .str [], .int .i64 (0), .sl0, .sl0, .sl0, .sl 4 0 2, .str [], .sl0, .int .i64 (47)], 11, .old⟩),
  (2, ⟨[.str [73, 110, 116], .sl0], 2, .old⟩),
  (3, ⟨[.int .i64 (1), .str [], .str [], .int .i64 (3), .sl0, .sl0, .sl0, .sl0, .str [], .sl0, .int .i64 (41)], 11, .old⟩),
  (4, ⟨[.int .i64 (1), .str [], .str [], .int .i64 (1), .sl0, .sl0, .sl0, .sl0, .str [], .sl0, .int .i64 (47), .int .i64 (1), .str [], .str [], .int .i64 (0), .sl0, .sl0, .sl0, .sl0, .str [], .sl0, .int .i64 (51)], 11, .old⟩)], 5, .tup [.agg [.int .i64 (2), .str [97, 112, 112], .int .i64 (0), .sl0, .sl0, .sl0, .sl0, .sl0, .sl 6973 0 1], .int .i64 (0), .int .i64 (0)],
 [(6973, ⟨[.int .i64 (0), .bool false, .bool false, .str [109, 97, 105, 110], .sl0, .sl0, .str [73, 110, 116], .sl0, .bool true, .int .i64 (8), .str [43], .str [], .int .i64 (0), .sl0, .sl0, .sl0, .sl 6838 0 2, .str [73, 110, 116], .sl0, .int .i64 (31)], 20, .free⟩),
  (6838, ⟨[.int .i64 (7), .str [], .str [], .int .i64 (0), .sl 6160 0 1, .sl0, .sl0, .sl 6298 0 1, .str [73, 110, 116], .sl0, .int .i64 (31), .int .i64 (8), .str [47], .str [], .int .i64 (0), .sl0, .sl0, .sl0, .sl 6762 0 2, .str [73, 110, 116], .sl0, .int .i64 (47)], 11, .tip 11⟩),
  (6160, ⟨[.str [73, 110, 116], .sl0], 2, .free⟩),
  (6298, ⟨[.int .i64 (1), .str [], .str [], .int .i64 (3), .sl0, .sl0, .sl0, .sl0, .str [73, 110, 116], .sl0, .int .i64 (41)], 11, .free⟩),
  (6762, ⟨[.int .i64 (1), .str [], .str [], .int .i64 (1), .sl0, .sl0, .sl0, .sl0, .str [73, 110, 116], .sl0, .int .i64 (47), .int .i64 (1), .str [], .str [], .int .i64 (0), .sl0, .sl0, .sl0, .sl0, .str [73, 110, 116], .sl0, .int .i64 (51)], 11, .tip 11⟩)], 6983, []⟩
theorem Tryz.b5_says : Tryz.b5.says (fFun ((Ctx.of Tryz.prog).withB []) (memoA (orcB []) [Tryz.b0, Tryz.b1, Tryz.b2, Tryz.b3, Tryz.b4]) 2000) = true := by kernel_rfl
theorem Tryz.b5_shape : (Tryz.b5.static && Tryz.b5.named Tryz.prog) = true := by kernel_rfl
/-- Run -/
def Tryz.b6 : Memo := ⟨6, [.sl 0 0 1, .str [97, 112, 112], .int .i64 (5)],
 [(0, ⟨[.int .i64 (2), .str [97, 112, 112], .int .i64 (0), .sl0, .sl0, .sl0, .sl0, .sl0, .sl 1 0 1], 9, .old⟩),
  (1, ⟨[.int .i64 (0), .bool false, .bool false, .str [109, 97, 105, 110], .sl0, .sl0, .str [73, 110, 116], .sl0, .bool true, .int .i64 (8), .str [43], .str [], .int .i64 (0), .sl0, .sl0, .sl0, .sl 2 0 2, .str [73, 110, 116], .sl0, .int .i64 (31)], 20, .old⟩),
  (2, ⟨[.int .i64 (7), .str [], .str [], .int .i64 (0), .sl 3 0 1, .sl0, .sl0, .sl 4 0 1, .str [73, 110, 116], .sl0, .int .i64 (31), .int .i64 (8), .str [47], .str [], .int .i64 (0), .sl0, .sl0, .sl0, .sl 5 0 2, .str [73, 110, 116], .sl0, .int .i64 (47)], 11, .old⟩),
  (3, ⟨[.str [73, 110, 116], .sl0], 2, .old⟩),
  (4, ⟨[.int .i64 (1), .str [], .str [], .int .i64 (3), .sl0, .sl0, .sl0, .sl0, .str [73, 110, 116], .sl0, .int .i64 (41)], 11, .old⟩),
  (5, ⟨[.int .i64 (1), .str [], .str [], .int .i64 (1), .sl0, .sl0, .sl0, .sl0, .str [73, 110, 116], .sl0, .int .i64 (47), .int .i64 (1), .str [], .str [], .int .i64 (0), .sl0, .sl0, .sl0, .sl0, .str [73, 110, 116], .sl0, .int .i64 (51)], 11, .old⟩)], 6, .agg [.sl0, .int .i64 (1), .int .i64 (3), .str [], .int .i64 (1)],
 [], 498, []⟩
theorem Tryz.b6_says : Tryz.b6.says (fFun ((Ctx.of Tryz.prog).withB []) (memoA (orcB []) [Tryz.b0, Tryz.b1, Tryz.b2, Tryz.b3, Tryz.b4, Tryz.b5]) 2000) = true := by kernel_rfl
theorem Tryz.b6_shape : (Tryz.b6.static && Tryz.b6.named Tryz.prog) = true := by kernel_rfl
end
end Go.Proofs

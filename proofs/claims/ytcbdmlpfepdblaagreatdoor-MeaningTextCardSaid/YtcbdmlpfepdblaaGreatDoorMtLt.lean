import Derived.Test.YtcbdmlpfepdblaaGreatDoorMtCtx
import Derived.Test.YtcbdmlpfepdblaaGreatDoorMtLb
namespace Go.Proofs
noncomputable section
open Go Go.Ev Go.RowKit
def Tryz.ltQ (j : Nat) : Nat := 24 + j
/-- sum(t) of a tree of n nodes -/
def Tryz.lt (n : Nat) : Memo := ⟨15, [.ptr 0 0, .agg [.int .i64 (0), .bool false, .bool false, .str [115, 117, 109], .sl0, .sl 1 0 1, .str [73, 110, 116], .sl0, .bool true, .int .i64 (15), .str [], .str [], .int .i64 (0), .sl0, .sl0, .sl 2 0 2, .sl 3 0 3, .str [73, 110, 116], .sl0, .int .i64 (184)], .sl0, .sl 4 0 1],
 [(0, ⟨[.sl 5 0 1, .map 6, .map 7, .sx .i64 (.var 0), .sx .i64 (.var 1), .sl0, .int .i64 (0)], 7, .free⟩),
  (1, ⟨[.str [116], .str [97, 112, 112, 46, 84, 114, 101, 101], .sl0, .bool false, .int .i64 (0), .str [], .str [], .int .i64 (0), .sl0, .sl0, .sl0, .sl0, .str [], .sl0, .int .i64 (0)], 15, .old⟩),
  (2, ⟨[.bool false, .str [108, 101, 97, 102], .sl0, .bool false, .str [110, 111, 100, 101], .sl 8 0 2], 3, .old⟩),
  (3, ⟨[.int .i64 (3), .str [116], .str [], .int .i64 (0), .sl0, .sl0, .sl0, .sl0, .str [97, 112, 112, 46, 84, 114, 101, 101], .sl0, .int .i64 (191), .int .i64 (1), .str [], .str [], .int .i64 (0), .sl0, .sl0, .sl0, .sl0, .str [73, 110, 116], .sl0, .int .i64 (204), .int .i64 (8), .str [43], .str [], .int .i64 (0), .sl0, .sl0, .sl0, .sl 9 0 2, .str [73, 110, 116], .sl0, .int .i64 (221)], 11, .old⟩),
  (4, ⟨Tryz.tval Tryz.ltQ n, 5, .old⟩),
  (5, ⟨[.int .i64 (2), .str [97, 112, 112], .int .i64 (0), .sl0, .sl0, .sl 10 0 1, .sl0, .sl0, .sl 11 0 3], 9, .old⟩),
  (6, ⟨[], 0, .map⟩),
  (7, ⟨[.str [97, 112, 112, 46, 109, 97, 105, 110], .agg [.int .i64 (0), .bool false, .bool false, .str [109, 97, 105, 110], .sl0, .sl0, .str [73, 110, 116], .sl0, .bool true, .int .i64 (9), .str [97, 112, 112, 46, 115, 117, 109], .str [], .int .i64 (0), .sl0, .sl0, .sl0, .sl 12 0 1, .str [73, 110, 116], .sl0, .int .i64 (255)], .str [97, 112, 112, 46, 115, 117, 109], .agg [.int .i64 (0), .bool false, .bool false, .str [115, 117, 109], .sl0, .sl 1 0 1, .str [73, 110, 116], .sl0, .bool true, .int .i64 (15), .str [], .str [], .int .i64 (0), .sl0, .sl0, .sl 2 0 2, .sl 3 0 3, .str [73, 110, 116], .sl0, .int .i64 (184)], .str [97, 112, 112, 46, 98, 117, 105, 108, 100], .agg [.int .i64 (0), .bool false, .bool false, .str [98, 117, 105, 108, 100], .sl0, .sl 13 0 1, .str [97, 112, 112, 46, 84, 114, 101, 101], .sl0, .bool true, .int .i64 (5), .str [], .str [], .int .i64 (0), .sl0, .sl0, .sl0, .sl 14 0 3, .str [97, 112, 112, 46, 84, 114, 101, 101], .sl0, .int .i64 (86)]], 0, .map⟩),
  (8, ⟨[.str [108], .str [118]], 1, .old⟩),
  (9, ⟨[.int .i64 (3), .str [118], .str [], .int .i64 (0), .sl0, .sl0, .sl0, .sl0, .str [73, 110, 116], .sl0, .int .i64 (221), .int .i64 (9), .str [97, 112, 112, 46, 115, 117, 109], .str [], .int .i64 (0), .sl0, .sl0, .sl0, .sl 15 0 1, .str [73, 110, 116], .sl0, .int .i64 (225)], 11, .old⟩),
  (10, ⟨[.int .i64 (0), .bool false, .bool false, .str [84, 114, 101, 101], .sl0, .sl 16 0 2], 6, .old⟩),
  (11, ⟨[.int .i64 (0), .bool false, .bool false, .str [98, 117, 105, 108, 100], .sl0, .sl 13 0 1, .str [97, 112, 112, 46, 84, 114, 101, 101], .sl0, .bool true, .int .i64 (5), .str [], .str [], .int .i64 (0), .sl0, .sl0, .sl0, .sl 14 0 3, .str [97, 112, 112, 46, 84, 114, 101, 101], .sl0, .int .i64 (86), .int .i64 (0), .bool false, .bool false, .str [115, 117, 109], .sl0, .sl 1 0 1, .str [73, 110, 116], .sl0, .bool true, .int .i64 (15), .str [], .str [], .int .i64 (0), .sl0, .sl0, .sl 2 0 2, .sl 3 0 3, .str [73, 110, 116], .sl0, .int .i64 (184), .int .i64 (0), .bool false, .bool false, .str [109, 97, 105, 110], .sl0, .sl0, .str [73, 110, 116], .sl0, .bool true, .int .i64 (9), .str [97, 112, 112, 46, 115, 117, 109], .str [], .int .i64 (0), .sl0, .sl0, .sl0, .sl 12 0 1, .str [73, 110, 116], .sl0, .int .i64 (255)], 20, .old⟩),
  (12, ⟨[.int .i64 (9), .str [97, 112, 112, 46, 98, 117, 105, 108, 100], .str [], .int .i64 (0), .sl0, .sl0, .sl0, .sl 17 0 1, .str [97, 112, 112, 46, 84, 114, 101, 101], .sl0, .int .i64 (259)], 11, .old⟩),
  (13, ⟨[.str [110], .str [73, 110, 116], .sl0, .bool false, .int .i64 (0), .str [], .str [], .int .i64 (0), .sl0, .sl0, .sl0, .sl0, .str [], .sl0, .int .i64 (0)], 15, .old⟩),
  (14, ⟨[.int .i64 (8), .str [60], .str [], .int .i64 (0), .sl0, .sl0, .sl0, .sl 18 0 2, .str [66, 111, 111, 108], .sl0, .int .i64 (89), .int .i64 (14), .str [], .str [108, 101, 97, 102], .int .i64 (0), .sl 19 0 1, .sl0, .sl0, .sl0, .str [97, 112, 112, 46, 84, 114, 101, 101], .sl0, .int .i64 (100), .int .i64 (14), .str [], .str [110, 111, 100, 101], .int .i64 (0), .sl 20 0 1, .sl0, .sl0, .sl 21 0 2, .str [97, 112, 112, 46, 84, 114, 101, 101], .sl0, .int .i64 (123)], 11, .old⟩),
  (15, ⟨[.int .i64 (3), .str [108], .str [], .int .i64 (0), .sl0, .sl0, .sl0, .sl0, .str [97, 112, 112, 46, 84, 114, 101, 101], .sl0, .int .i64 (229)], 11, .old⟩),
  (16, ⟨[.bool false, .str [108, 101, 97, 102], .sl0, .bool true, .str [110, 111, 100, 101], .sl 22 0 2], 3, .old⟩),
  (17, ⟨[.int .i64 (1), .str [], .str [], .sx .i64 (.var 2), .sl0, .sl0, .sl0, .sl0, .str [73, 110, 116], .sl0, .int .i64 (265)], 11, .old⟩),
  (18, ⟨[.int .i64 (3), .str [110], .str [], .int .i64 (0), .sl0, .sl0, .sl0, .sl0, .str [73, 110, 116], .sl0, .int .i64 (89), .int .i64 (1), .str [], .str [], .int .i64 (1), .sl0, .sl0, .sl0, .sl0, .str [73, 110, 116], .sl0, .int .i64 (93)], 11, .old⟩),
  (19, ⟨[.str [97, 112, 112, 46, 84, 114, 101, 101], .sl0], 2, .old⟩),
  (20, ⟨[.str [97, 112, 112, 46, 84, 114, 101, 101], .sl0], 2, .old⟩),
  (21, ⟨[.int .i64 (9), .str [97, 112, 112, 46, 98, 117, 105, 108, 100], .str [], .int .i64 (0), .sl0, .sl0, .sl0, .sl 23 0 1, .str [97, 112, 112, 46, 84, 114, 101, 101], .sl0, .int .i64 (133), .int .i64 (3), .str [110], .str [], .int .i64 (0), .sl0, .sl0, .sl0, .sl0, .str [73, 110, 116], .sl0, .int .i64 (147)], 11, .old⟩),
  (22, ⟨[.str [97, 112, 112, 46, 84, 114, 101, 101], .sl0, .str [73, 110, 116], .sl0], 2, .old⟩),
  (23, ⟨[.int .i64 (8), .str [45], .str [], .int .i64 (0), .sl0, .sl0, .sl0, .sl 24 0 2, .str [73, 110, 116], .sl0, .int .i64 (139)], 11, .old⟩),
  (24, ⟨[.int .i64 (3), .str [110], .str [], .int .i64 (0), .sl0, .sl0, .sl0, .sl0, .str [73, 110, 116], .sl0, .int .i64 (139), .int .i64 (1), .str [], .str [], .int .i64 (1), .sl0, .sl0, .sl0, .sl0, .str [73, 110, 116], .sl0, .int .i64 (143)], 11, .old⟩)] ++ Tryz.tblks Tryz.ltQ .old n, 25 + n, .agg [.str [73, 110, 116], .sl0, .int .i64 (Int.ofNat (n * (n + 1) / 2)), .str [], .sl0],
 [(0, ⟨[.sl 5 0 1, .map 6, .map 7, .sx .i64 (.op .sub .i64 (.var 0) (.lit (Int.ofNat (n + 1)))), .sx .i64 (.op .add .i64 (.var 1) (.lit (Int.ofNat (n + 1)))), .sl0, .int .i64 (0)], 7, .free⟩),
  (6, ⟨[], 0, .map⟩),
  (7, ⟨[.str [97, 112, 112, 46, 109, 97, 105, 110], .agg [.int .i64 (0), .bool false, .bool false, .str [109, 97, 105, 110], .sl0, .sl0, .str [73, 110, 116], .sl0, .bool true, .int .i64 (9), .str [97, 112, 112, 46, 115, 117, 109], .str [], .int .i64 (0), .sl0, .sl0, .sl0, .sl 12 0 1, .str [73, 110, 116], .sl0, .int .i64 (255)], .str [97, 112, 112, 46, 115, 117, 109], .agg [.int .i64 (0), .bool false, .bool false, .str [115, 117, 109], .sl0, .sl 1 0 1, .str [73, 110, 116], .sl0, .bool true, .int .i64 (15), .str [], .str [], .int .i64 (0), .sl0, .sl0, .sl 2 0 2, .sl 3 0 3, .str [73, 110, 116], .sl0, .int .i64 (184)], .str [97, 112, 112, 46, 98, 117, 105, 108, 100], .agg [.int .i64 (0), .bool false, .bool false, .str [98, 117, 105, 108, 100], .sl0, .sl 13 0 1, .str [97, 112, 112, 46, 84, 114, 101, 101], .sl0, .bool true, .int .i64 (5), .str [], .str [], .int .i64 (0), .sl0, .sl0, .sl0, .sl 14 0 3, .str [97, 112, 112, 46, 84, 114, 101, 101], .sl0, .int .i64 (86)]], 0, .map⟩)], 25 + n + 236 + 672 * n, bnds (Tryz.lvB n)⟩
theorem Tryz.lt_0 : Memo.lev0 Tryz.prog (Ctx.of Tryz.prog) Tryz.lvB Tryz.lt = true := by kernel_rfl
theorem Tryz.lt_c0 : (List.range' 0 17).all (Memo.levCk Tryz.prog (Ctx.of Tryz.prog) Tryz.lvB Tryz.lt) = true := by kernel_rfl
theorem Tryz.lt_c17 : (List.range' 17 17).all (Memo.levCk Tryz.prog (Ctx.of Tryz.prog) Tryz.lvB Tryz.lt) = true := by kernel_rfl
theorem Tryz.lt_c34 : (List.range' 34 15).all (Memo.levCk Tryz.prog (Ctx.of Tryz.prog) Tryz.lvB Tryz.lt) = true := by kernel_rfl
theorem Tryz.lt_ok : ∀ n, n ≤ 49 → (Tryz.lt n).Ok Tryz.prog Any := Memo.levels Tryz.ctxAll (fun _ => rfl) Tryz.lt_0 fun n h => by
  rcases Nat.lt_or_ge n 17 with h0 | h0
  · exact all_range Tryz.lt_c0 (by omega) (by omega)
  rcases Nat.lt_or_ge n 34 with h1 | h1
  · exact all_range Tryz.lt_c17 (by omega) (by omega)
  exact all_range Tryz.lt_c34 (by omega) (by omega)
end
end Go.Proofs

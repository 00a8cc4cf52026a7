import Derived.Test.YtcbdmlpfepdblaaGreatDoorMtCtx
import Derived.Test.YtcbdmlpfepdblaaGreatDoorEvG
namespace Go.Proofs
noncomputable section
open Go Go.Ev Go.RowKit
def Tryz.lvB (n : Nat) : Bounds := [(0, Int.ofNat (n + 1), 1000)]
/-- sum(n) of the first text -/
def Tryz.ls (n : Nat) : Memo := ⟨15, [.ptr 0 0, .agg [.int .i64 (0), .bool false, .bool false, .str [115, 117, 109], .sl0, .sl 1 0 1, .str [73, 110, 116], .sl0, .bool true, .int .i64 (5), .str [], .str [], .int .i64 (0), .sl0, .sl0, .sl0, .sl 2 0 3, .str [73, 110, 116], .sl0, .int .i64 (36)], .sl0, .sl 3 0 1],
 [(0, ⟨[.sl 4 0 1, .map 5, .map 6, .sx .i64 (.var 0), .sx .i64 (.var 1), .sl0, .int .i64 (0)], 7, .free⟩),
  (1, ⟨[.str [110], .str [73, 110, 116], .sl0, .bool false, .int .i64 (0), .str [], .str [], .int .i64 (0), .sl0, .sl0, .sl0, .sl0, .str [], .sl0, .int .i64 (0)], 15, .old⟩),
  (2, ⟨[.int .i64 (8), .str [60], .str [], .int .i64 (0), .sl0, .sl0, .sl0, .sl 7 0 2, .str [66, 111, 111, 108], .sl0, .int .i64 (39), .int .i64 (1), .str [], .str [], .int .i64 (0), .sl0, .sl0, .sl0, .sl0, .str [73, 110, 116], .sl0, .int .i64 (50), .int .i64 (8), .str [43], .str [], .int .i64 (0), .sl0, .sl0, .sl0, .sl 8 0 2, .str [73, 110, 116], .sl0, .int .i64 (57)], 11, .old⟩),
  (3, ⟨[.str [73, 110, 116], .sl0, .int .i64 (Int.ofNat n), .str [], .sl0], 5, .old⟩),
  (4, ⟨[.int .i64 (2), .str [97, 112, 112], .int .i64 (0), .sl0, .sl0, .sl0, .sl0, .sl0, .sl 9 0 2], 9, .old⟩),
  (5, ⟨[], 0, .map⟩),
  (6, ⟨[.str [97, 112, 112, 46, 109, 97, 105, 110], .agg [.int .i64 (0), .bool false, .bool false, .str [109, 97, 105, 110], .sl0, .sl0, .str [73, 110, 116], .sl0, .bool true, .int .i64 (9), .str [97, 112, 112, 46, 115, 117, 109], .str [], .int .i64 (0), .sl0, .sl0, .sl0, .sl 10 0 1, .str [73, 110, 116], .sl0, .int .i64 (92)], .str [97, 112, 112, 46, 115, 117, 109], .agg [.int .i64 (0), .bool false, .bool false, .str [115, 117, 109], .sl0, .sl 1 0 1, .str [73, 110, 116], .sl0, .bool true, .int .i64 (5), .str [], .str [], .int .i64 (0), .sl0, .sl0, .sl0, .sl 2 0 3, .str [73, 110, 116], .sl0, .int .i64 (36)]], 0, .map⟩),
  (7, ⟨[.int .i64 (3), .str [110], .str [], .int .i64 (0), .sl0, .sl0, .sl0, .sl0, .str [73, 110, 116], .sl0, .int .i64 (39), .int .i64 (1), .str [], .str [], .int .i64 (1), .sl0, .sl0, .sl0, .sl0, .str [73, 110, 116], .sl0, .int .i64 (43)], 11, .old⟩),
  (8, ⟨[.int .i64 (3), .str [110], .str [], .int .i64 (0), .sl0, .sl0, .sl0, .sl0, .str [73, 110, 116], .sl0, .int .i64 (57), .int .i64 (9), .str [97, 112, 112, 46, 115, 117, 109], .str [], .int .i64 (0), .sl0, .sl0, .sl0, .sl 11 0 1, .str [73, 110, 116], .sl0, .int .i64 (61)], 11, .old⟩),
  (9, ⟨[.int .i64 (0), .bool false, .bool false, .str [115, 117, 109], .sl0, .sl 1 0 1, .str [73, 110, 116], .sl0, .bool true, .int .i64 (5), .str [], .str [], .int .i64 (0), .sl0, .sl0, .sl0, .sl 2 0 3, .str [73, 110, 116], .sl0, .int .i64 (36), .int .i64 (0), .bool false, .bool false, .str [109, 97, 105, 110], .sl0, .sl0, .str [73, 110, 116], .sl0, .bool true, .int .i64 (9), .str [97, 112, 112, 46, 115, 117, 109], .str [], .int .i64 (0), .sl0, .sl0, .sl0, .sl 10 0 1, .str [73, 110, 116], .sl0, .int .i64 (92)], 20, .old⟩),
  (10, ⟨[.int .i64 (1), .str [], .str [], .sx .i64 (.var 2), .sl0, .sl0, .sl0, .sl0, .str [73, 110, 116], .sl0, .int .i64 (96)], 11, .old⟩),
  (11, ⟨[.int .i64 (8), .str [45], .str [], .int .i64 (0), .sl0, .sl0, .sl0, .sl 12 0 2, .str [73, 110, 116], .sl0, .int .i64 (65)], 11, .old⟩),
  (12, ⟨[.int .i64 (3), .str [110], .str [], .int .i64 (0), .sl0, .sl0, .sl0, .sl0, .str [73, 110, 116], .sl0, .int .i64 (65), .int .i64 (1), .str [], .str [], .int .i64 (1), .sl0, .sl0, .sl0, .sl0, .str [73, 110, 116], .sl0, .int .i64 (69)], 11, .old⟩)], 13, .agg [.str [73, 110, 116], .sl0, .int .i64 (Int.ofNat (n * (n + 1) / 2)), .str [], .sl0],
 [(0, ⟨[.sl 4 0 1, .map 5, .map 6, .sx .i64 (.op .sub .i64 (.var 0) (.lit (Int.ofNat (n + 1)))), .sx .i64 (.op .add .i64 (.var 1) (.lit (Int.ofNat (n + 1)))), .sl0, .int .i64 (0)], 7, .free⟩),
  (5, ⟨[], 0, .map⟩),
  (6, ⟨[.str [97, 112, 112, 46, 109, 97, 105, 110], .agg [.int .i64 (0), .bool false, .bool false, .str [109, 97, 105, 110], .sl0, .sl0, .str [73, 110, 116], .sl0, .bool true, .int .i64 (9), .str [97, 112, 112, 46, 115, 117, 109], .str [], .int .i64 (0), .sl0, .sl0, .sl0, .sl 10 0 1, .str [73, 110, 116], .sl0, .int .i64 (92)], .str [97, 112, 112, 46, 115, 117, 109], .agg [.int .i64 (0), .bool false, .bool false, .str [115, 117, 109], .sl0, .sl 1 0 1, .str [73, 110, 116], .sl0, .bool true, .int .i64 (5), .str [], .str [], .int .i64 (0), .sl0, .sl0, .sl0, .sl 2 0 3, .str [73, 110, 116], .sl0, .int .i64 (36)]], 0, .map⟩)], 462 + 1059 * n, bnds (Tryz.lvB n)⟩
theorem Tryz.ls_0 : Memo.lev0 Tryz.prog (Ctx.of Tryz.prog) Tryz.lvB Tryz.ls = true := by kernel_rfl
theorem Tryz.ls_c0 : (List.range' 0 25).all (Memo.levCk Tryz.prog (Ctx.of Tryz.prog) Tryz.lvB Tryz.ls) = true := by kernel_rfl
theorem Tryz.ls_c25 : (List.range' 25 24).all (Memo.levCk Tryz.prog (Ctx.of Tryz.prog) Tryz.lvB Tryz.ls) = true := by kernel_rfl
theorem Tryz.ls_ok : ∀ n, n ≤ 49 → (Tryz.ls n).Ok Tryz.prog Any := Memo.levels Tryz.ctxAll (fun _ => rfl) Tryz.ls_0 fun n h => by
  rcases Nat.lt_or_ge n 25 with h0 | h0
  · exact all_range Tryz.ls_c0 (by omega) (by omega)
  exact all_range Tryz.ls_c25 (by omega) (by omega)
end
end Go.Proofs

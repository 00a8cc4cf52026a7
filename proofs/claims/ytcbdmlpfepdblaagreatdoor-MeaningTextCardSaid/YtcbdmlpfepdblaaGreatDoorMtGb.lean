import Derived.Test.YtcbdmlpfepdblaaGreatDoorMtCtx
import Derived.Test.YtcbdmlpfepdblaaGreatDoorMtGx
namespace Go.Proofs
noncomputable section
open Go Go.Ev Go.RowKit
/-- what the steps from a to b cost -/
def Tryz.grS (a b : Nat) : Nat := cond (Nat.blt a b) (cond (Nat.beq a 0) (1096 + 1099 * (b - 1) + 11 * (b * (b - 1))) (1099 * (b - a) + 11 * (b * (b - 1) - a * (a - 1)))) 0
def Tryz.num (x i : Nat) : AV := .int .i64 (Int.ofNat (x - i))
/-- main of the second text -/
def Tryz.cm (x : Nat) : Memo := ⟨15, [.ptr 0 0, .agg [.int .i64 (0), .bool false, .bool false, .str [109, 97, 105, 110], .sl0, .sl0, .str [73, 110, 116], .sl0, .bool true, .int .i64 (17), .str [], .str [], .int .i64 (0), .sl0, .sl0, .sl0, .sl 1 0 1, .str [73, 110, 116], .sl0, .int .i64 (126)], .sl0, .sl0],
 [(0, ⟨[.sl 2 0 1, .map 3, .map 4, .int .i64 1000, .int .i64 0, .sl0, .int .i64 (0)], 7, .free⟩),
  (1, ⟨[.int .i64 (9), .str [97, 112, 112, 46, 103, 114, 111, 119], .str [], .int .i64 (0), .sl0, .sl0, .sl0, .sl 5 0 2, .str [65, 114, 114, 97, 121], .sl 6 0 1, .int .i64 (132)], 11, .old⟩),
  (2, ⟨[.int .i64 (2), .str [97, 112, 112], .int .i64 (0), .sl0, .sl0, .sl0, .sl0, .sl0, .sl 7 0 2], 9, .old⟩),
  (3, ⟨[], 0, .map⟩),
  (4, ⟨[.str [97, 112, 112, 46, 109, 97, 105, 110], .agg [.int .i64 (0), .bool false, .bool false, .str [109, 97, 105, 110], .sl0, .sl0, .str [73, 110, 116], .sl0, .bool true, .int .i64 (17), .str [], .str [], .int .i64 (0), .sl0, .sl0, .sl0, .sl 1 0 1, .str [73, 110, 116], .sl0, .int .i64 (126)], .str [97, 112, 112, 46, 103, 114, 111, 119], .agg [.int .i64 (0), .bool false, .bool false, .str [103, 114, 111, 119], .sl0, .sl 8 0 2, .str [65, 114, 114, 97, 121], .sl 9 0 1, .bool true, .int .i64 (5), .str [], .str [], .int .i64 (0), .sl0, .sl0, .sl0, .sl 10 0 3, .str [65, 114, 114, 97, 121], .sl 11 0 1, .int .i64 (59)]], 0, .map⟩),
  (5, ⟨[.int .i64 (16), .str [], .str [], .int .i64 (0), .sl 12 0 1, .sl0, .sl0, .sl0, .str [65, 114, 114, 97, 121], .sl 13 0 1, .int .i64 (137), .int .i64 (1), .str [], .str [], Tryz.num x 0, .sl0, .sl0, .sl0, .sl0, .str [73, 110, 116], .sl0, .int .i64 (151)], 11, .old⟩),
  (6, ⟨[.str [73, 110, 116], .sl0], 2, .old⟩),
  (7, ⟨[.int .i64 (0), .bool false, .bool false, .str [103, 114, 111, 119], .sl0, .sl 8 0 2, .str [65, 114, 114, 97, 121], .sl 9 0 1, .bool true, .int .i64 (5), .str [], .str [], .int .i64 (0), .sl0, .sl0, .sl0, .sl 10 0 3, .str [65, 114, 114, 97, 121], .sl 11 0 1, .int .i64 (59), .int .i64 (0), .bool false, .bool false, .str [109, 97, 105, 110], .sl0, .sl0, .str [73, 110, 116], .sl0, .bool true, .int .i64 (17), .str [], .str [], .int .i64 (0), .sl0, .sl0, .sl0, .sl 1 0 1, .str [73, 110, 116], .sl0, .int .i64 (126)], 20, .old⟩),
  (8, ⟨[.str [97], .str [65, 114, 114, 97, 121], .sl 14 0 1, .bool false, .int .i64 (0), .str [], .str [], .int .i64 (0), .sl0, .sl0, .sl0, .sl0, .str [], .sl0, .int .i64 (0), .str [110], .str [73, 110, 116], .sl0, .bool false, .int .i64 (0), .str [], .str [], .int .i64 (0), .sl0, .sl0, .sl0, .sl0, .str [], .sl0, .int .i64 (0)], 15, .old⟩),
  (9, ⟨[.str [73, 110, 116], .sl0], 2, .old⟩),
  (10, ⟨[.int .i64 (8), .str [60], .str [], .int .i64 (0), .sl0, .sl0, .sl0, .sl 15 0 2, .str [66, 111, 111, 108], .sl0, .int .i64 (62), .int .i64 (3), .str [97], .str [], .int .i64 (0), .sl0, .sl0, .sl0, .sl0, .str [65, 114, 114, 97, 121], .sl 11 0 1, .int .i64 (73), .int .i64 (9), .str [97, 112, 112, 46, 103, 114, 111, 119], .str [], .int .i64 (0), .sl0, .sl0, .sl0, .sl 16 0 2, .str [65, 114, 114, 97, 121], .sl 17 0 1, .int .i64 (80)], 11, .old⟩),
  (11, ⟨[.str [73, 110, 116], .sl0], 2, .old⟩),
  (12, ⟨[.str [73, 110, 116], .sl0], 2, .old⟩),
  (13, ⟨[.str [73, 110, 116], .sl0], 2, .old⟩),
  (14, ⟨[.str [73, 110, 116], .sl0], 2, .old⟩),
  (15, ⟨[.int .i64 (3), .str [110], .str [], .int .i64 (0), .sl0, .sl0, .sl0, .sl0, .str [73, 110, 116], .sl0, .int .i64 (62), .int .i64 (1), .str [], .str [], .int .i64 (1), .sl0, .sl0, .sl0, .sl0, .str [73, 110, 116], .sl0, .int .i64 (66)], 11, .old⟩),
  (16, ⟨[.int .i64 (19), .str [], .str [], .int .i64 (0), .sl0, .sl0, .sl0, .sl 18 0 2, .str [65, 114, 114, 97, 121], .sl 19 0 1, .int .i64 (85), .int .i64 (8), .str [45], .str [], .int .i64 (0), .sl0, .sl0, .sl0, .sl 20 0 2, .str [73, 110, 116], .sl0, .int .i64 (99)], 11, .old⟩),
  (17, ⟨[.str [73, 110, 116], .sl0], 2, .old⟩),
  (18, ⟨[.int .i64 (3), .str [97], .str [], .int .i64 (0), .sl0, .sl0, .sl0, .sl0, .str [65, 114, 114, 97, 121], .sl 19 0 1, .int .i64 (92), .int .i64 (3), .str [110], .str [], .int .i64 (0), .sl0, .sl0, .sl0, .sl0, .str [73, 110, 116], .sl0, .int .i64 (95)], 11, .old⟩),
  (19, ⟨[.str [73, 110, 116], .sl0], 2, .old⟩),
  (20, ⟨[.int .i64 (3), .str [110], .str [], .int .i64 (0), .sl0, .sl0, .sl0, .sl0, .str [73, 110, 116], .sl0, .int .i64 (99), .int .i64 (1), .str [], .str [], .int .i64 (1), .sl0, .sl0, .sl0, .sl0, .str [73, 110, 116], .sl0, .int .i64 (103)], 11, .old⟩)], 21, .agg [.str [73, 110, 116], .sl0, Tryz.num x 0, .str [], .sl0],
 [(0, ⟨[.sl 2 0 1, .map 3, .map 4, .int .i64 (Int.ofNat (998 - x)), .int .i64 (Int.ofNat (x + 2)), .sl0, .int .i64 (0)], 7, .free⟩),
  (3, ⟨[], 0, .map⟩),
  (4, ⟨[.str [97, 112, 112, 46, 109, 97, 105, 110], .agg [.int .i64 (0), .bool false, .bool false, .str [109, 97, 105, 110], .sl0, .sl0, .str [73, 110, 116], .sl0, .bool true, .int .i64 (17), .str [], .str [], .int .i64 (0), .sl0, .sl0, .sl0, .sl 1 0 1, .str [73, 110, 116], .sl0, .int .i64 (126)], .str [97, 112, 112, 46, 103, 114, 111, 119], .agg [.int .i64 (0), .bool false, .bool false, .str [103, 114, 111, 119], .sl0, .sl 8 0 2, .str [65, 114, 114, 97, 121], .sl 9 0 1, .bool true, .int .i64 (5), .str [], .str [], .int .i64 (0), .sl0, .sl0, .sl0, .sl 10 0 3, .str [65, 114, 114, 97, 121], .sl 11 0 1, .int .i64 (59)]], 0, .map⟩)], 1074 + Tryz.grS 0 x, bnds []⟩
noncomputable def Tryz.cmCk (x : Nat) : Bool := (Tryz.cm x).says (fFun ((Ctx.of Tryz.prog).withB []) Tryz.gQ 2000) && ((Tryz.cm x).static && (Tryz.cm x).named Tryz.prog)
theorem Tryz.cm_of {x : Nat} (h : Tryz.cmCk x = true) : (Tryz.cm x).Ok Tryz.prog Any := by
  have h' := Bool.and_eq_true_iff.1 h
  exact Memo.nextG Tryz.ctxAll [] (fun E _ => Tryz.gQ_sound E) Tryz.gQ_heap rfl h'.2 h'.1
end
end Go.Proofs

import Derived.Test.YtcbdmlpfepdblaaGreatDoorMtCtx
import Derived.Test.YtcbdmlpfepdblaaGreatDoorEvG
namespace Go.Proofs
noncomputable section
open Go Go.Ev Go.RowKit
def Tryz.nB : Bounds := [(0, 1, 49)]
/-- n < 1, n from 1 to 49 -/
def Tryz.bl : Memo := ⟨64, [.str [60], .sl 0 0 2], [(0, ⟨[.str [73, 110, 116], .sl0, .sx .i64 (.var 0), .str [], .sl0, .str [73, 110, 116], .sl0, .int .i64 (1), .str [], .sl0], 5, .old⟩)], 1, .agg [.str [66, 111, 111, 108], .sl0, .int .i64 (0), .str [], .sl0], [], 213, bnds Tryz.nB⟩
/-- 0 < 1 -/
def Tryz.bf : Memo := ⟨64, [.str [60], .sl 0 0 2], [(0, ⟨[.str [73, 110, 116], .sl0, .int .i64 (0), .str [], .sl0, .str [73, 110, 116], .sl0, .int .i64 (1), .str [], .sl0], 5, .old⟩)], 1, .agg [.str [66, 111, 111, 108], .sl0, .int .i64 (1), .str [], .sl0], [], 215, bnds []⟩
/-- n - 1 -/
def Tryz.bm : Memo := ⟨64, [.str [45], .sl 0 0 2], [(0, ⟨[.str [73, 110, 116], .sl0, .sx .i64 (.var 0), .str [], .sl0, .str [73, 110, 116], .sl0, .int .i64 (1), .str [], .sl0], 5, .old⟩)], 1, .agg [.str [73, 110, 116], .sl0, .sx .i64 (.op .sub .i64 (.var 0) (.lit 1)), .str [], .sl0], [], 160, bnds Tryz.nB⟩
theorem Tryz.bl_says : (Tryz.bl.says (fFun ((Ctx.of Tryz.prog).withB Tryz.nB) (memoA (orcB Tryz.nB) []) 2000) && (Tryz.bl.static && Tryz.bl.named Tryz.prog)) = true := by kernel_rfl
theorem Tryz.bl_ok : Tryz.bl.Ok Tryz.prog Any := Memo.nextF Tryz.ctxAll Tryz.nB (ms := []) Memo.none' rfl (Bool.and_eq_true_iff.1 Tryz.bl_says).2 (Bool.and_eq_true_iff.1 Tryz.bl_says).1
theorem Tryz.bf_says : (Tryz.bf.says (fFun ((Ctx.of Tryz.prog).withB []) (memoA (orcB []) []) 2000) && (Tryz.bf.static && Tryz.bf.named Tryz.prog)) = true := by kernel_rfl
theorem Tryz.bf_ok : Tryz.bf.Ok Tryz.prog Any := Memo.nextF Tryz.ctxAll [] (ms := []) Memo.none' rfl (Bool.and_eq_true_iff.1 Tryz.bf_says).2 (Bool.and_eq_true_iff.1 Tryz.bf_says).1
theorem Tryz.bm_says : (Tryz.bm.says (fFun ((Ctx.of Tryz.prog).withB Tryz.nB) (memoA (orcB Tryz.nB) []) 2000) && (Tryz.bm.static && Tryz.bm.named Tryz.prog)) = true := by kernel_rfl
theorem Tryz.bm_ok : Tryz.bm.Ok Tryz.prog Any := Memo.nextF Tryz.ctxAll Tryz.nB (ms := []) Memo.none' rfl (Bool.and_eq_true_iff.1 Tryz.bm_says).2 (Bool.and_eq_true_iff.1 Tryz.bm_says).1
def Tryz.els (v : Nat → AV) : Nat → Nat → List AV
  | _, 0 => []
  | i, k + 1 => .str [73, 110, 116] :: .sl0 :: v i :: .str [] :: .sl0 :: Tryz.els v (i + 1) k
/-- how many parts a list of k numbers has -/
def Tryz.lc (k : Nat) : Memo := ⟨96, [.agg [.str [65, 114, 114, 97, 121], .sl 0 0 1, .int .i64 (0), .str [], .sl 1 0 k]], [(0, ⟨[.str [73, 110, 116], .sl0], 2, .old⟩), (1, ⟨Tryz.els (fun i => .sx .i64 (.var i)) 0 k, 5, .old⟩)], 2, .int .i64 (Int.ofNat (k + 1)), [], 12 + 22 * k, bnds []⟩
noncomputable def Tryz.lcCk (k : Nat) : Bool := (Tryz.lc k).says (fFun ((Ctx.of Tryz.prog).withB []) (memoA (orcB []) []) 2000) && ((Tryz.lc k).static && (Tryz.lc k).named Tryz.prog)
theorem Tryz.lc_a : (List.range' 1 25).all Tryz.lcCk = true := by kernel_rfl
theorem Tryz.lc_b : (List.range' 26 24).all Tryz.lcCk = true := by kernel_rfl
theorem Tryz.lc_ok (k : Nat) (h1 : 1 ≤ k) (h2 : k ≤ 49) : (Tryz.lc k).Ok Tryz.prog Any := by
  have ck : Tryz.lcCk k = true := by
    rcases Nat.lt_or_ge k 26 with h | h
    · exact all_range Tryz.lc_a h1 (by omega)
    · exact all_range Tryz.lc_b h (by omega)
  have ck' := Bool.and_eq_true_iff.1 ck
  exact Memo.nextF Tryz.ctxAll [] (ms := []) Memo.none' rfl ck'.2 ck'.1
def Tryz.selC : List AV → Nat
  | [.agg [_, _, _, _, .sl _ _ k]] => k
  | _ => 0
/-- small calls, known -/
def Tryz.gP : CallA := orP (memoA (orcB []) [Tryz.bl, Tryz.bf, Tryz.bm]) (famA (orcB []) 96 Tryz.selC 1 49 Tryz.lc)
theorem Tryz.gP_sound (E : Env) : @CallSound E Tryz.prog Tryz.gP := by
  have ho := orcB_sound (E := E) (bs := []) (fun x hx => by simp [bnds] at hx)
  refine @orP_sound E _ _ _ (memoA_sound ho (D := Any) (fun _ => trivial) (fun m hm => ?_)) (famA_sound ho (fun k h1 h2 => Tryz.lc_ok k h1 h2))
  simp only [List.mem_cons, List.not_mem_nil, or_false] at hm
  rcases hm with rfl | rfl | rfl
  · exact Tryz.bl_ok
  · exact Tryz.bf_ok
  · exact Tryz.bm_ok
theorem Tryz.gP_heap : CallHeap Tryz.gP := orP_heap (memoA_heap fun m hm => by
  simp only [List.mem_cons, List.not_mem_nil, or_false] at hm
  rcases hm with rfl | rfl | rfl
  · exact Tryz.bl_ok.1
  · exact Tryz.bf_ok.1
  · exact Tryz.bm_ok.1) (famA_heap fun k h1 h2 => (Tryz.lc_ok k h1 h2).1)
end
end Go.Proofs

import Derived.Test.YtcbdmlpfepdblaaGreatDoorMtA1
import Derived.Test.YtcbdmlpfepdblaaGreatDoorMtA2
namespace Go.Proofs
noncomputable section
open Go Go.Ev Go.RowKit
/-- awake -/
def Tryz.w0 : Memo := ⟨8, [],
 [], 0, .bool true,
 [], 60767, []⟩
theorem Tryz.w0_says : Tryz.w0.says (fFun ((Ctx.of Tryz.prog).withB []) (memoA (orcB []) [Tryz.a0, Tryz.a1, Tryz.a2, Tryz.a3, Tryz.a4, Tryz.a5, Tryz.a6, Tryz.b0, Tryz.b1, Tryz.b2, Tryz.b3, Tryz.b4, Tryz.b5, Tryz.b6]) 2000) = true := by kernel_rfl
theorem Tryz.w0_shape : (Tryz.w0.static && Tryz.w0.named Tryz.prog) = true := by kernel_rfl
end
end Go.Proofs

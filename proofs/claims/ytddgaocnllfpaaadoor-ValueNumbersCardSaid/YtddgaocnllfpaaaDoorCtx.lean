import Derived.Test.YtddgaocnllfpaaaDoorEvPrim
import Derived.Test.YtddgaocnllfpaaaDoorShelf
namespace Go.Proofs
open Go Go.Ev Go.RowKit
variable [Env]
omit [Env] in
theorem Tryd.names : (Tryd.prog.funcs.toList.all fun x => x.name != "runtime.NumGoroutine") = true := by kernel_rfl
theorem Tryd.ctxOk : (Ctx.of Tryd.prog).Ok Tryd.prog := ctx_ok (by kernel_rfl) fun f x h => by
  have := List.all_eq_true.1 Tryd.names x (by rw [Array.mem_toList_iff]; exact Array.mem_of_getElem? h)
  simpa using this
def Tryd.prim : CallA := joinAt 23
omit [Env] in
theorem Tryd.int5 : (evFun (Ctx.of Tryd.prog) Tryd.prim 50 H0 4 [.int .i64 5]).map (·.1) = some (.agg [.str [73, 110, 116], .sl0, .int .i64 5, .str [], .sl0]) := by kernel_rfl
end Go.Proofs

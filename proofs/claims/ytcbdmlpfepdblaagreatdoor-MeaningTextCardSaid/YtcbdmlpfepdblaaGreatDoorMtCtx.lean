import Derived.Test.YtcbdmlpfepdblaaGreatDoorEvG
import Derived.Test.YtcbdmlpfepdblaaGreatDoorProg
namespace Go.Proofs
open Go Go.Ev Go.RowKit
namespace Tryz
end Tryz
theorem Tryz.names : (Tryz.prog.funcs.toList.all fun x => x.name != "runtime.NumGoroutine") = true := by kernel_rfl
theorem Tryz.ctxOk [Env] : (Ctx.of Tryz.prog).Ok Tryz.prog := ctx_ok (by kernel_rfl) fun f x h => by
  have := List.all_eq_true.1 Tryz.names x (by rw [Array.mem_toList_iff]; exact Array.mem_of_getElem? h)
  simpa using this
end Go.Proofs
namespace Go.Proofs
open Go Go.Ev Go.RowKit
theorem Tryz.ctxAll : ∀ E : Env, @Ctx.Ok E (Ctx.of Tryz.prog) Tryz.prog := fun E => @Tryz.ctxOk E
def Tryz.bd1 : Bounds := [(0, 48, 57)]
def Tryz.bd2 : Bounds := [(0, 49, 52), (1, 48, 57)]
end Go.Proofs

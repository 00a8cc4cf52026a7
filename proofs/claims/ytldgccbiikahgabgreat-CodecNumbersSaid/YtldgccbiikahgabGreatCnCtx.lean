import Derived.Test.YtldgccbiikahgabGreatCnSum
import Derived.Test.YtldgccbiikahgabGreatProg
/-! The program as the evaluator sees it; what the law asks of its two numbers. -/
namespace Go.Proofs
open Go Go.Ev Go.RowKit
namespace Tryz
theorem names : (Tryz.prog.funcs.toList.all fun x => x.name != "runtime.NumGoroutine") = true := by kernel_rfl
theorem ctxOk [Env] : (Ctx.of Tryz.prog).Ok Tryz.prog := ctx_ok (by kernel_rfl) fun f x h => by
  have := List.all_eq_true.1 Tryz.names x (by rw [Array.mem_toList_iff]; exact Array.mem_of_getElem? h)
  simpa using this
/-- what is asked where k bytes are wanted, k from 1 to 7 -/
def factsAt (k : Nat) : List Fact := [
  ⟨.eql, some8 k, .op .and .u64 (.var 0) (.lit (2 ^ (8 * k) - 1 : Nat)), true⟩,
  ⟨.eql, behind (some8 k) (8 - k), .op .and .u64 (.var 0) (.lit (2 ^ (8 * k) - 1 : Nat)), true⟩]
/-- where eight are wanted -/
def facts8 : List Fact := [⟨.eql, some8 8, .var 0, true⟩]
/-- where more than eight are wanted -/
def factsUp : List Fact := ⟨.lss, .lit 8, .var 1, true⟩ :: facts8
/-- where none are wanted -/
def factsLow : List Fact := [
  ⟨.lss, .lit 8, .var 1, false⟩,
  ⟨.lss, .lit 0, .var 1, false⟩,
  ⟨.eql, .lit 0, .op .and .u64 (.var 0) (.lit 0), true⟩]
noncomputable def said (fs : List Fact) (size : AV) : Option AV :=
  (evFun ((Ctx.of prog).withFacts fs) noP 200 H0 3 [.sx .u64 (.var 0), size]).map (·.1)
end Tryz
end Go.Proofs

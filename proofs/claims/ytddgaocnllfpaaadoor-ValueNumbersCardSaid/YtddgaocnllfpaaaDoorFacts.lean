import Derived.Test.YtddgaocnllfpaaaDoorCtx
namespace Go.Proofs
open Go Go.Ev Go.RowKit
variable [Env]
namespace Tryd
def x : Exp := .var 0
def y : Exp := .var 1
def z : Exp := .var 2
def rem : Exp := .op .rem .i64 x y
/-- what is asked of three numbers of which the second is not zero; `s`: the sign of a rest that is not zero -/
def facts (bx bz bo : Bool) (s : Option Bool) (l g e : Bool) : List Fact := [
  ⟨.eql, y, .lit 0, false⟩,
  ⟨.eql, z, .lit 0, bz⟩,
  ⟨.eql, rem, .lit 0, s.isNone⟩,
  ⟨.eql, .op .mul .i64 y z, .lit 0, bo⟩,
  ⟨.eql, x, .lit 0, bx⟩,
  ⟨.neq, .op .add .i64 (.op .mul .i64 (.op .quo .i64 x y) y) rem, x, false⟩,
  ⟨.neq, rem, .lit 0, s.isSome⟩,
  ⟨.lss, x, y, l⟩,
  ⟨.lss, y, x, g⟩,
  ⟨.eql, x, y, e⟩,
  ⟨.eql, .op .sub .i64 (.op .add .i64 x y) y, x, true⟩,
  ⟨.eql, .op .mul .i64 (.op .add .i64 x y) z, .op .add .i64 (.op .mul .i64 x z) (.op .mul .i64 y z), true⟩] ++
  match s with
  | some b => [⟨.lss, rem, .lit 0, b⟩, ⟨.lss, x, .lit 0, b⟩]
  | none => []
noncomputable def said (bx bz bo : Bool) (s : Option Bool) (l g e : Bool) : Option AV :=
  (evFun ((Ctx.of prog).withFacts (facts bx bz bo s l g e)) prim 60 H0 3 [.sx .i64 x, .sx .i64 y, .sx .i64 z]).map (·.1)
omit [Env] in
theorem zero : (evFun (Ctx.of prog) prim 60 H0 3 [.sx .i64 x, .int .i64 0, .sx .i64 z]).map (·.1) = some (.bool true) := by kernel_rfl
end Tryd
end Go.Proofs

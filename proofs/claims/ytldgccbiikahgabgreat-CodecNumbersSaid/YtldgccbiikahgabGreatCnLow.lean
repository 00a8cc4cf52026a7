import Derived.Test.YtldgccbiikahgabGreatCnCtx
namespace Go.Proofs.Tryz
open Go Go.Ev Go.RowKit
theorem low : said factsLow (.sx .i64 (.var 1)) = some (.bool true) := by kernel_rfl
theorem up : said factsUp (.sx .i64 (.var 1)) = some (.bool true) := by kernel_rfl
end Go.Proofs.Tryz

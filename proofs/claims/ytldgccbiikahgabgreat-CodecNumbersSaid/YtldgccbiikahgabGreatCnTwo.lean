import Derived.Test.YtldgccbiikahgabGreatCnCtx
namespace Go.Proofs.Tryz
open Go Go.Ev Go.RowKit
theorem at5 : said (factsAt 5) (.int .i64 5) = some (.bool true) := by kernel_rfl
theorem at6 : said (factsAt 6) (.int .i64 6) = some (.bool true) := by kernel_rfl
theorem at7 : said (factsAt 7) (.int .i64 7) = some (.bool true) := by kernel_rfl
theorem at8 : said facts8 (.int .i64 8) = some (.bool true) := by kernel_rfl
end Go.Proofs.Tryz

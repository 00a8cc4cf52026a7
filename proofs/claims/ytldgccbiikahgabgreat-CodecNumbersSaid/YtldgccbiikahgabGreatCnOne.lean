import Derived.Test.YtldgccbiikahgabGreatCnCtx
namespace Go.Proofs.Tryz
open Go Go.Ev Go.RowKit
theorem at1 : said (factsAt 1) (.int .i64 1) = some (.bool true) := by kernel_rfl
theorem at2 : said (factsAt 2) (.int .i64 2) = some (.bool true) := by kernel_rfl
theorem at3 : said (factsAt 3) (.int .i64 3) = some (.bool true) := by kernel_rfl
theorem at4 : said (factsAt 4) (.int .i64 4) = some (.bool true) := by kernel_rfl
end Go.Proofs.Tryz
